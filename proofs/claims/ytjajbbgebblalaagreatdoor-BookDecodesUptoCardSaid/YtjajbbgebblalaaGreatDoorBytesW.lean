/-
  Words on slices of bytes, and on new memory that holds bytes.
-/
/-
  The walks of the reference's Same and Copy, and of slices.Clone at bytes.
-/
import Derived.Test.YtjajbbgebblalaaGreatDoorProg
import Derived.Test.YtjajbbgebblalaaGreatDoorSteps
import Derived.Test.YtjajbbgebblalaaGreatDoorOwn
import Derived.Test.YtjajbbgebblalaaGreatDoorVarP
import Derived.Laws.MakeOwn
namespace Go.Proofs.YtjajbbgebblalaaGreatDoor
open Go.RowKit
set_option linter.unusedVariables false
set_option linter.unusedSimpArgs false
def u8s (l : List UInt8) : List Value := l.map fun b => .int .u8 (b.toNat : Nat)
theorem u8s_len (l : List UInt8) : (u8s l).length = l.length := by simp [u8s]
theorem u8s_app (l m : List UInt8) : u8s (l ++ m) = u8s l ++ u8s m := by simp [u8s]
theorem u8s_cons (c : UInt8) (l : List UInt8) : u8s (c :: l) = .int .u8 (c.toNat : Nat) :: u8s l := rfl
theorem u8s_take (l : List UInt8) (k : Nat) : u8s (l.take k) = (u8s l).take k := by simp [u8s]
theorem u8s_drop (l : List UInt8) (k : Nat) : u8s (l.drop k) = (u8s l).drop k := by simp [u8s]
theorem one_u8 (l : List UInt8) : ∀ u ∈ u8s l, u.oneCell' = true := fun u hu => by simp [u8s] at hu; obtain ⟨x, _, rfl⟩ := hu; rfl
theorem at_u8 {w : World} {A : Option Addr} {n k : Nat} {l : List UInt8} (h : Rd w A n (u8s l)) (hk : k < n) :
    ∃ b o, A = some ⟨b, o, none⟩ ∧ w.cell? ⟨b, o + k, none⟩ = some (.int .u8 ((l.getD k 0).toNat : Nat)) := by
  obtain ⟨b, o, e, hc⟩ := h.2 (by omega)
  have hl : k < l.length := by have := h.1; simp [u8s] at this; omega
  exact ⟨b, o, e, hc k _ (by simp [u8s, List.getD, List.getElem?_eq_getElem hl])⟩
theorem el_u8 : Elem Tryz.prog 5 (.int .u8 0) 1 1 := ⟨by kernel_rfl, rfl, by decide⟩
/-- New memory that holds the bytes l: what is answered. -/
def NewB (w : World) (l : List UInt8) (e : Ending) (w' : World) : Prop := ∃ A c, e = .returned (.slice A l.length c) ∧ Ext w w' ∧ w'.ownsRow w.heap.size 5 1 (.slice A l.length c) l.length (u8s l)
theorem rd_own {w : World} {base : Nat} {A : Option Addr} {c n : Nat} {l : List UInt8} (h : w.ownsRow base 5 1 (.slice A n c) n (u8s l)) : Rd w A n (u8s l) := Rd.of_own h
theorem own_len {w : World} {base : Nat} {v : Value} {n : Nat} {l : List UInt8} (h : w.ownsRow base 5 1 v n (u8s l)) : n = l.length := by
  have := h.1; rw [u8s_len] at this; omega
/-- A part of what reads. -/
theorem Rd.part {w : World} {b o n : Nat} {l : List Value} (h : Rd w (some ⟨b, o, none⟩) n l) (i m : Nat) (hi : i + m ≤ n) : Rd w (some ⟨b, o + i, none⟩) m ((l.drop i).take m) := by
  refine ⟨by have := h.1; simp; omega, fun hm => ⟨b, o + i, rfl, fun j u hu => ?_⟩⟩
  obtain ⟨b', o', e, hc⟩ := h.2 (by omega)
  injection e with e
  injection e with e1 e2
  subst e1 e2
  have hj : j < m := by
    rcases Nat.lt_or_ge j m with h1 | h1
    · exact h1
    · rw [List.getElem?_eq_none (by simp; omega)] at hu; cases hu
  rw [Nat.add_assoc]
  refine hc (i + j) u ?_
  rw [List.getElem?_take, if_pos hj, List.getElem?_drop] at hu
  exact hu
theorem rd_byte (w : World) (x : Int) (c : UInt8) (h : x = (c.toNat : Nat)) : Rd (w.alloc (.cells #[.int .u8 x] 5)) (some ⟨w.heap.size, 0, none⟩) 1 (u8s [c]) := by
  subst h
  exact rd_new w _ _
theorem size_u8 (w : World) : (sizeOf (Tryz.prog.elem 36)).run Tryz.prog w = .ok 1 w := by kernel_rfl
theorem elem_u8 : Tryz.prog.underlying 36 = some (.slice (Tryz.prog.elem 36)) := by kernel_rfl
/-- 's[at:]'. -/
theorem slice_lo (A : Option Addr) (n c i : Nat) (h : i ≤ n) (hc : n ≤ c) :
    ∃ A', (∀ W : World, (Instr.slice 36 (.slice A n c) (some (.int .i64 (i : Nat))) none none).run Tryz.prog W = .ok (.slice A' (n - i) (c - i)) W) ∧ ∀ (W : World) (l : List UInt8), Rd W A n (u8s l) → Rd W A' (n - i) (u8s (l.drop i)) := by
  refine ⟨if c = i then A else A.map (·.add (i * 1)), fun W => ?_, fun W l hr => ?_⟩
  · rw [run_slice_l W 36 A n c elem_u8 .i64 i (by omega) (by omega), size_u8, Result.andThen_ok]
    simp [sliced]
  · refine ⟨by have := hr.1; rw [u8s_len] at this; rw [u8s_len]; simp; omega, fun h0 => ?_⟩
    obtain ⟨b, o, rfl, hcell⟩ := hr.2 (by omega)
    rw [if_neg (by omega)]
    have ha : (⟨b, o, none⟩ : Addr).add (i * 1) = ⟨b, o + i, none⟩ := by by_cases h : i = 0 <;> simp [Addr.add, h]
    rw [Nat.mul_one] at ha
    refine ⟨b, o + i, by simp [ha], fun j u hu => ?_⟩
    rw [Nat.add_assoc]
    refine hcell (i + j) u ?_
    rw [u8s_drop, List.getElem?_drop] at hu
    exact hu
/-- 's[lo:hi]'. -/
theorem slice_lh (A : Option Addr) (n c i k : Nat) (h : i ≤ k) (hk : k ≤ n) (hc : n ≤ c) :
    ∃ A', (∀ W : World, (Instr.slice 36 (.slice A n c) (some (.int .i64 (i : Nat))) (some (.int .i64 (k : Nat))) none).run Tryz.prog W = .ok (.slice A' (k - i) (c - i)) W) ∧ ∀ (W : World) (l : List UInt8), Rd W A n (u8s l) → Rd W A' (k - i) (u8s ((l.drop i).take (k - i))) := by
  refine ⟨if c = i then A else A.map (·.add (i * 1)), fun W => ?_, fun W l hr => ?_⟩
  · rw [run_slice_lh W 36 A n c elem_u8 .i64 .i64 i k (by omega) (by omega) (by omega), size_u8, Result.andThen_ok]
    simp [sliced]
  · refine ⟨by have := hr.1; rw [u8s_len] at this; rw [u8s_len]; simp; omega, fun h0 => ?_⟩
    obtain ⟨b, o, rfl, hcell⟩ := hr.2 (by omega)
    rw [if_neg (by omega)]
    have ha : (⟨b, o, none⟩ : Addr).add (i * 1) = ⟨b, o + i, none⟩ := by by_cases h : i = 0 <;> simp [Addr.add, h]
    rw [Nat.mul_one] at ha
    refine ⟨b, o + i, by simp [ha], fun j u hu => ?_⟩
    rw [Nat.add_assoc]
    refine hcell (i + j) u ?_
    have hj : j < k - i := by
      have := (List.getElem?_eq_some_iff.1 hu).1
      rw [u8s_len] at this
      simp at this
      omega
    rw [u8s_take, u8s_drop, List.getElem?_take, if_pos hj, List.getElem?_drop] at hu
    exact hu
section
variable {w : World}
/-- append onto a row of bytes of the call's own (or nil), from bytes that read. W: the world below which nothing turns. -/
theorem wpB_append {ops : Array Oper} {rest : List Oper} {o : Oper} {a : Act} {Q : Exit → Act → World → Prop} (hgd : o.guard = none) (s x : Operand)
    (ho : o.op = .call { callee := .builtin .append, args := #[s, x], argTypes := #[36, 36] }) (W : World)
    {A0 : Option Addr} {n0 c0 : Nat} {l : List UInt8} (hs : a.eval s = .slice A0 n0 c0) (hown : w.ownsRow W.heap.size 5 1 (.slice A0 n0 c0) n0 (u8s l)) (hW : Ext W w)
    {A : Option Addr} {m c : Nat} {news : List UInt8} (hx : a.eval x = .slice A m c) (hr : Rd w A m (u8s news)) (hb : l.length + news.length ≤ 140737488355328)
    (h : ∀ A' n' c' w', Ext W w' → Hid (n' = (l ++ news).length) → w'.ownsRow W.heap.size 5 1 (.slice A' n' c') n' (u8s (l ++ news)) → (∀ g t cs, t ≠ 5 → Blk w g t cs → Blk w' g t cs) → w.grownBy w' (Value.slice A0 n0 c0).ownBlock →
      wpList Tryz.prog ops Q rest (a.put o.dst (.slice A' n' c')) w') : wpList Tryz.prog ops Q (o :: rest) a w := by
  have e1 : n0 = l.length := own_len hown
  have e2 : news.length = m := by have := hr.1; rw [u8s_len] at this; exact this
  refine wpL_append hgd s x 36 ho W.heap.size 5 _ 1 1 Tryz.underlying36 el_u8 _ n0 _ hs hown A m c _ hx hr.toN (one_u8 _) (n0 + m) (u8s (l ++ news)) rfl (u8s_app _ _).symm (by simp only [maxLen]; omega) (by omega) hW.size ?_
  intro v' w' hown' hg _
  obtain ⟨A', c', rfl⟩ := own_slice hown'
  refine h A' _ c' w' (Ext.grown hW hg fun g hg' => own_lt hown g hg') (Lib.hid (by rw [List.length_append]; omega)) hown' (fun g t cs hne hb => BlkG hb hg fun hc => ?_) hg
  rcases hown.2 with ⟨hv, _⟩ | ⟨g2, cap, cur, hv, _, hg2, _⟩
  · rw [hv] at hc; cases hc
  · rw [hv] at hc
    simp only [Value.ownBlock, Option.some.injEq] at hc
    subst hc
    unfold Blk at hb
    rw [hb] at hg2
    simp at hg2
    exact hne hg2.2
theorem own_base {base base' : Nat} {e : TypeId} {s n : Nat} {v : Value} {xs : List Value} (h : w.ownsRow base e s v n xs) (hb : base' ≤ base) : w.ownsRow base' e s v n xs := by
  obtain ⟨h1, h2⟩ := h
  refine ⟨h1, ?_⟩
  rcases h2 with h2 | ⟨g, cap, cur, hv, hg, h3⟩
  · exact .inl h2
  · exact .inr ⟨g, cap, cur, hv, by omega, h3⟩
/-- The same at a step of a region that draws its order. -/
theorem stepB_append {ops : Array Oper} {o : Oper} {a : Act} {K : Act → World → Prop} {Q : Exit → Act → World → Prop} {E : Prop} (hgd : o.guard = none) (d : Option Tmp) (hd : o.dst = d) (s x : Operand)
    (ho : o.op = .call { callee := .builtin .append, args := #[s, x], argTypes := #[36, 36] }) (W : World)
    {A0 : Option Addr} {n0 c0 : Nat} {l : List UInt8} (hs : a.eval s = .slice A0 n0 c0) (hown : w.ownsRow W.heap.size 5 1 (.slice A0 n0 c0) n0 (u8s l)) (hW : Ext W w)
    {A : Option Addr} {m c : Nat} {news : List UInt8} (hx : a.eval x = .slice A m c) (hr : Rd w A m (u8s news)) (hb : l.length + news.length ≤ 140737488355328)
    (hK : ∀ A' n' c' w', Ext W w' → Hid (n' = (l ++ news).length) → w'.ownsRow W.heap.size 5 1 (.slice A' n' c') n' (u8s (l ++ news)) → (∀ g t cs, t ≠ 5 → Blk w g t cs → Blk w' g t cs) → K (a.put d (.slice A' n' c')) w') :
    if Region.wanted o (yielded ops a.tmps) = true then Oper.wp Tryz.prog o a w K Q else E := by
  subst hd
  have hwt : Region.wanted o (yielded ops a.tmps) = true := by simp [Region.wanted, hgd]
  rw [if_pos hwt]
  have e1 : n0 = l.length := own_len hown
  have e2 : news.length = m := by have := hr.1; rw [u8s_len] at this; exact this
  obtain ⟨v', w', hrun, h2, h3, h4⟩ := run_append_rd (P := Tryz.prog) W.heap.size 36 o.type 5 _ 1 1 Tryz.underlying36 el_u8 _ n0 _ hown A m c _ hr.toN (one_u8 _) (by simp only [maxLen]; omega) (by omega) hW.size
  rw [← u8s_app] at h2
  obtain ⟨A', c', rfl⟩ := own_slice h2
  unfold Oper.wp execOp
  simp only [ho, resolve, invoke, builtin, Sem.run_bind, Sem.run_pure, Result.andThen_ok, List.map_toArray, List.map_cons, List.map_nil, hs, hx, hrun]
  refine hK A' _ c' w' (Ext.grown hW h3 fun g hg' => own_lt hown g hg') (Lib.hid (by rw [List.length_append]; omega)) h2 (fun g t cs hne hb => BlkG hb h3 fun hc => ?_)
  rcases hown.2 with ⟨hv, _⟩ | ⟨g2, cap, cur, hv, _, hg2, _⟩
  · rw [hv] at hc; cases hc
  · rw [hv] at hc
    simp only [Value.ownBlock, Option.some.injEq] at hc
    subst hc
    unfold Blk at hb
    rw [hb] at hg2
    simp at hg2
    exact hne hg2.2
end
end Go.Proofs.YtjajbbgebblalaaGreatDoor

namespace Go.Proofs.YtjajbbgebblalaaGreatDoor
open Go.RowKit
set_option linter.unusedVariables false
set_option linter.unusedSimpArgs false
theorem ret_bool {a b : Bool} (h : a = b) : Ending.returned (.bool a) = .returned (.bool b) := by rw [h]
theorem take_snoc {α : Type} (l : List α) (k : Nat) (d : α) (h : k < l.length) : l.take (k + 1) = l.take k ++ [l.getD k d] := by
  rw [List.take_succ_eq_append_getElem h]
  simp [List.getD, List.getElem?_eq_getElem h]
def SameR (w : World) (n : Nat) (l m : List UInt8) (i : Value) (wr : World) : Prop := ∃ k : Nat, k ≤ n ∧ i = .int .i64 k ∧ (∃ d, wr = w.drewN d) ∧ l.take k = m.take k
theorem drawn_keep {w : World} {d : Nat} {A : Option Addr} {n : Nat} {xs : List Value} (h : Rd w A n xs) : Rd (w.drewN d) A n xs := h.ext (ExtDN (Ext.rfl' w))
set_option maxHeartbeats 400000 in
theorem same_q (A B : Option Addr) (n c n2 c2 : Nat) (l m : List UInt8) (w : World) (h1 : Rd w A n (u8s l)) (h2 : Rd w B n2 (u8s m)) (hn : n ≤ maxLen) :
    Calls Tryz.prog 29 #[.slice A n c, .slice B n2 c2] w fun e w' => e = .returned (.bool (decide (l = m))) ∧ ∃ d, w' = w.drewN d := by
  unfold maxLen at hn
  have e1 : l.length = n := by have := h1.1; rw [u8s_len] at this; exact this
  have e2 : m.length = n2 := by have := h2.1; rw [u8s_len] at this; exact this
  by_cases hnn : n = n2
  · subst hnn
    have E1 := Lib.hid e1
    have E2 := Lib.hid e2
    clear e1 e2
    go_enter Tryz.func29, Tryz.ntmps29
    go_wp2_with fail
    go_loopw [13] (fun i wr => SameR w n l m i wr) (fun i _ => n - (intOf i).toNat)
    case atStart => exact ⟨0, by omega, rfl, ⟨0, rfl⟩, rfl⟩
    case round =>
      obtain ⟨k, hk, rfl, ⟨dd, hdd⟩, heq⟩ := hrel
      have q1 : Rd wr A n (u8s l) := hdd ▸ drawn_keep h1
      have q2 : Rd wr B n (u8s m) := hdd ▸ drawn_keep h2
      have Hd := Lib.hid hdd
      clear hdd
      have Heq := Lib.hid heq
      clear heq
      by_cases hlt : k < n
      · obtain ⟨b, o, rfl, hc1⟩ := at_u8 q1 hlt
        obtain ⟨b', o', rfl, hc2⟩ := at_u8 q2 hlt
        have t1 := Lib.hid (take_snoc l k 0 (by have := E1.out; omega))
        have t2 := Lib.hid (take_snoc m k 0 (by have := E2.out; omega))
        obtain ⟨x, hx1⟩ : ∃ x, x = l.getD k 0 := ⟨_, rfl⟩
        obtain ⟨y, hy1⟩ : ∃ y, y = m.getD k 0 := ⟨_, rfl⟩
        rw [← hx1] at hc1 t1
        rw [← hy1] at hc2 t2
        have HX := Lib.hid hx1
        have HY := Lib.hid hy1
        clear hx1 hy1 h1 h2 q1 q2
        by_cases hxy : x = y
        · have Hxy := Lib.hid hxy
          subst hxy
          go_wp2_with fail
          go_quiet (fail)
          go_wp2_with fail
          go_roundw
          case rel => exact ⟨k + 1, by omega, by go_num, ⟨_, by rw [Hd.out, World.drewN_drewN]⟩, by rw [t1.out, t2.out, Heq.out]⟩
          case measure => simp [intOf]; omega
        · have hne : ¬ ((x.toNat : Int) = (y.toNat : Int)) := fun h => hxy (UInt8.toNat_inj.1 (by omega))
          have tt : ((x.toNat : Int) == (y.toNat : Int)) = false := by simpa using hne
          have tu : ((x.toNat : Int) != (y.toNat : Int)) = true := by simpa using hne
          have Hxy := Lib.hid hxy
          clear hxy hne
          go_wp2_with fail
          go_quiet (fail)
          go_wp2_with fail
          go_ret
          exact ⟨ret_bool (by simp; intro hc; exact Hxy.out (by rw [HX.out, HY.out, hc])), _, by rw [Hd.out, World.drewN_drewN]⟩
      · have hkn : k = n := by omega
        subst hkn
        go_wp2_with fail
        go_ret
        have h3 := Heq.out
        rw [List.take_of_length_le (by have := E1.out; omega), List.take_of_length_le (by have := E2.out; omega)] at h3
        exact ⟨ret_bool (by simp [h3]), _, Hd.out⟩
  · have tt : ((n : Int) != (n2 : Int)) = true := by simp; omega
    have Hnn := Lib.hid hnn
    have Hne := Lib.hid (show l ≠ m from fun h => hnn (by rw [← e1, ← e2, h]))
    clear hnn e1 e2
    go_enter Tryz.func29, Tryz.ntmps29
    go_wp2_with fail
    go_ret
    exact ⟨ret_bool (by simp; exact Hne.out), 0, rfl⟩
theorem same_any (A B : Option Addr) (n c n2 c2 : Nat) (l m : List UInt8) (w : World) (h1 : Rd w A n (u8s l)) (h2 : Rd w B n2 (u8s m)) (hn : n ≤ maxLen) :
    Calls Tryz.prog 29 #[.slice A n c, .slice B n2 c2] w fun e w' => e = .returned (.bool (decide (l = m))) ∧ Ext w w' :=
  (same_q A B n c n2 c2 l m w h1 h2 hn).mono fun e w' ⟨he, d, hd⟩ => ⟨he, by subst hd; exact ExtDN (Ext.rfl' w)⟩
def bpart (l : List UInt8) (k : Nat) : Array Value := ((u8s (l.take k)) ++ List.replicate (l.length - k) (Value.int .u8 0)).toArray
theorem bpart_size (l : List UInt8) (k : Nat) (h : k ≤ l.length) : (bpart l k).size = l.length := by simp [bpart, u8s]; omega
theorem bpart_all (l : List UInt8) : bpart l l.length = (u8s l).toArray := by simp [bpart]
theorem bpart_get (l : List UInt8) (k : Nat) (h : k < l.length) : (bpart l k)[k]? = some (.int .u8 0) := by
  have : (u8s (l.take k)).length = k := by simp [u8s]; omega
  simp [bpart, List.getElem?_append_right, this]
  simp [List.getElem?_replicate]; omega
theorem bpart_set (l : List UInt8) (k : Nat) (h : k < l.length) : (bpart l k).setIfInBounds k (.int .u8 ((l.getD k 0).toNat : Nat)) = bpart l (k + 1) := by
  have hl : (u8s (l.take k)).length = k := by simp [u8s]; omega
  unfold bpart
  rw [List.setIfInBounds_toArray, take_snoc l k 0 h, u8s_app, List.append_assoc]
  congr 1
  rw [List.set_append_right _ _ (by omega), hl, Nat.sub_self]
  congr 1
  obtain ⟨d, hd⟩ : ∃ d, l.length - k = d + 1 := ⟨l.length - k - 1, by omega⟩
  rw [hd, List.replicate_succ, show l.length - (k + 1) = d by omega]
  rfl
theorem made_u8 (l : List UInt8) (hn : l.length ≤ 140737488355328) (w : World) :
    (Instr.makeSlice 36 (.int .i64 (l.length : Nat)) (.int .i64 (l.length : Nat))).run Tryz.prog w = .ok (.slice (some ⟨w.heap.size, 0, none⟩) l.length l.length) (w.alloc (.cells (bpart l 0) 5)) := by
  obtain ⟨i, hi, h⟩ := Option.map_eq_some_iff.1 el_u8.1
  simp only [Prod.mk.injEq] at h
  have hr := run_make (P := Tryz.prog) w 36 5 i (.int .u8 0) Tryz.underlying36 hi h.1 .i64 .i64 l.length l.length (by omega) (Int.le_refl _) (by rw [h.2.2]; omega) (by omega)
  rw [hr, h.2.1]
  have : madeCells (Value.int .u8 0).cells (((l.length : Nat) : Int).toNat * 1) = bpart l 0 := by
    apply Array.toList_inj.1
    have e : (Value.int .u8 0).cells = #[.int .u8 0] := rfl
    rw [e, toList_madeCells_one]
    simp [bpart, u8s]
  rw [this]
  simp
def CopyR (W : World) (l : List UInt8) (g : Nat) (c10 : Value) (wr : World) : Prop :=
  ∃ k : Nat, k ≤ l.length ∧ c10 = .int .i64 k ∧ Ext W wr ∧ Blk wr g 5 (bpart l k)
theorem own_blk {w : World} {base g n c : Nat} {t : TypeId} {cs : Array Value} (h : Blk w g t cs) (hb : base ≤ g) (hn : cs.size = c) (hc : n ≤ c) (hm : c ≤ maxLen) : w.ownsRow base t 1 (.slice (some ⟨g, 0, none⟩) n c) n (cs.toList.take n) :=
  ⟨by simp; omega, .inr ⟨g, c, cs, rfl, hb, h, hc, hm, by omega, by simp⟩⟩
set_option maxHeartbeats 400000 in
theorem copy_any (A : Option Addr) (n c : Nat) (l : List UInt8) (w : World) (hr : Rd w A n (u8s l)) (hn : n ≤ 140737488355328) :
    Calls Tryz.prog 31 #[.slice A n c] w (NewB w l) := by
  have e1 : l.length = n := by have := hr.1; rw [u8s_len] at this; exact this
  have hmk := made_u8 l (by omega)
  subst e1
  have Hmk := Lib.hid hmk
  go_enter Tryz.func31, Tryz.ntmps31
  go_wp2_with fail
  clear hmk
  go_loopw [10] (fun c10 wr => CopyR w l w.heap.size c10 wr) (fun c10 _ => l.length - (intOf c10).toNat)
  case atStart => exact ⟨0, by omega, rfl, (by repeat (first | with_reducible exact Below.refl _ _ | with_reducible assumption | with_reducible refine ExtD ?_ | with_reducible refine ExtDN ?_ | with_reducible refine ExtA ?_ | (with_reducible refine ExtR ?_ ?_; (first | omega | (dsimp only; omega) | (simp; done) | (simp; omega))) | (with_reducible refine ExtS ?_ ?_; (first | omega | (dsimp only; omega) | (simp; done) | (simp; omega))) | with_reducible refine Ext.tr ?_ (by with_reducible assumption))), (by repeat (first | with_reducible assumption | (with_reducible refine BlkN ?_; (first | rfl | (first | omega | (dsimp only; omega) | (simp; done) | (simp; omega)))) | with_reducible refine BlkD ?_ | with_reducible refine BlkDN ?_ | with_reducible refine BlkA ?_ | with_reducible refine BlkE ?_ (by with_reducible assumption) | with_reducible refine BlkS ?_ | (with_reducible refine BlkF ?_ ?_; (first | omega | (dsimp only; omega) | (simp; done) | (simp; omega))) | (with_reducible refine BlkR ?_ ?_; (first | omega | (dsimp only; omega) | (simp; done) | (simp; omega)))))⟩
  case round =>
    obtain ⟨k, hk, rfl, hx, hb⟩ := hrel
    by_cases hlt : k < l.length
    · obtain ⟨b, o, rfl, hc1⟩ := at_u8 (hr.ext hx) hlt
      have c2 := (hb.cell k).trans (bpart_get l k hlt)
      have f2 := hb.frozen k
      have Hs := Lib.hid (bpart_set l k hlt)
      obtain ⟨x, hx1⟩ : ∃ x, x = (l.getD k 0).toNat := ⟨_, rfl⟩
      rw [← hx1] at hc1 Hs
      clear hx1
      go_wp2_with fail
      go_roundw
      case rel =>
        refine ⟨k + 1, by omega, by go_num, (by repeat (first | with_reducible exact Below.refl _ _ | with_reducible assumption | with_reducible refine ExtD ?_ | with_reducible refine ExtDN ?_ | with_reducible refine ExtA ?_ | (with_reducible refine ExtR ?_ ?_; (first | omega | (dsimp only; omega) | (simp; done) | (simp; omega))) | (with_reducible refine ExtS ?_ ?_; (first | omega | (dsimp only; omega) | (simp; done) | (simp; omega))) | with_reducible refine Ext.tr ?_ (by with_reducible assumption))), ?_⟩
        rw [← Hs.out]
        exact (by repeat (first | with_reducible assumption | (with_reducible refine BlkN ?_; (first | rfl | (first | omega | (dsimp only; omega) | (simp; done) | (simp; omega)))) | with_reducible refine BlkD ?_ | with_reducible refine BlkDN ?_ | with_reducible refine BlkA ?_ | with_reducible refine BlkE ?_ (by with_reducible assumption) | with_reducible refine BlkS ?_ | (with_reducible refine BlkF ?_ ?_; (first | omega | (dsimp only; omega) | (simp; done) | (simp; omega))) | (with_reducible refine BlkR ?_ ?_; (first | omega | (dsimp only; omega) | (simp; done) | (simp; omega)))))
      case measure => simp [intOf]; omega
    · obtain rfl : k = l.length := by omega
      rw [bpart_all] at hb
      go_wp2_with fail
      go_ret
      refine ⟨_, _, rfl, hx, ?_⟩
      have := own_blk (base := w.heap.size) (n := l.length) hb (Nat.le_refl _) (by simp [u8s]) (Nat.le_refl _) (by simp only [maxLen]; omega)
      rw [show (u8s l).toArray.toList.take l.length = u8s l by rw [List.take_of_length_le]; simp [u8s]] at this
      exact this
theorem own_empty (w : World) : (w.alloc (.cells #[] 5)).ownsRow w.heap.size 5 1 (.slice (some ⟨w.heap.size, 0, none⟩) 0 0) 0 (u8s []) := own_new w w.heap.size #[] _ 0 (Nat.le_refl _) (by decide) rfl
set_option maxRecDepth 100000 in
set_option maxHeartbeats 400000 in
theorem clone_any (A : Option Addr) (n c : Nat) (l : List UInt8) (w : World) (hr : Rd w A n (u8s l)) (hn : n ≤ 140737488355328) :
    Calls Tryz.prog 53 #[.slice A n c] w (NewB w l) := by
  have e1 : l.length = n := by have := hr.1; rw [u8s_len] at this; exact this
  rcases A with _ | ad
  · have hn0 : n = 0 := by
      rcases Nat.eq_zero_or_pos n with h | h
      · exact h
      · obtain ⟨b, o, h2, _⟩ := hr.2 h; cases h2
    have hl : l = [] := List.eq_nil_of_length_eq_zero (by omega)
    subst hn0 hl
    clear e1 hr
    go_enter Tryz.func53, Tryz.ntmps53
    have hq := fun (W : World) (n c : Nat) => Lib.run_eql_slice_nil (P := Tryz.prog) W 36 5 none n c 0 0 Tryz.underlying36
    go_wp2_with fail
    go_ret
    exact ⟨none, 0, rfl, (by repeat (first | with_reducible exact Below.refl _ _ | with_reducible assumption | with_reducible refine ExtD ?_ | with_reducible refine ExtDN ?_ | with_reducible refine ExtA ?_ | (with_reducible refine ExtR ?_ ?_; (first | omega | (dsimp only; omega) | (simp; done) | (simp; omega))) | (with_reducible refine ExtS ?_ ?_; (first | omega | (dsimp only; omega) | (simp; done) | (simp; omega))) | with_reducible refine Ext.tr ?_ (by with_reducible assumption))), World.ownsRow_nil _ _ _ _⟩
  · have hq := fun (W : World) (n c : Nat) => Lib.run_eql_slice_nil (P := Tryz.prog) W 36 5 (some ad) n c 0 0 Tryz.underlying36
    have E1 := Lib.hid e1
    clear e1
    go_enter Tryz.func53, Tryz.ntmps53
    go_wp2_with (at_builtin; go_must (refine wpB_append rfl (.tmp 5) (.tmp 6) rfl w rfl (own_empty w) (ExtA (Ext.rfl' w)) rfl (hr.ext (ExtA (Ext.rfl' w))) (by have := E1.out; simp; omega) ?_); intro A2 n2 c2 w2 hx2 hn2 hown2 hk2 hg2)
    go_ret
    rw [hn2.out] at hown2 ⊢
    exact ⟨A2, c2, rfl, hx2, hown2⟩
end Go.Proofs.YtjajbbgebblalaaGreatDoor
