/-
  Which names are right: both walks.
-/
/-
  A disk in memory: blocks that turn, maps of pointers, files.
-/
/-
  Bytes of the call's own whose slice may have been cut to its length (its block may be longer than its capacity).
-/
/-
  A disk in memory; New, step, open.
-/
/-
  A disk in memory; open, Create, Used, Free.
-/
/-
  A disk in memory; Create, Used, Free.
-/
/-
  A disk in memory; Append, Used, Free.
-/
/-
  A disk in memory; Sync, Size, Fuse, Down, Steps, ReadBytes.
-/
/-
  A disk in memory; Size, Read, Fuse, Down, Steps, ReadBytes.
-/
/-
  A disk in memory; Read.
-/
import Derived.Test.YtjajbbgebblalaaGreatDoorBytesX
import Derived.Maps.OwnSet
namespace Go.Proofs.YtjajbbgebblalaaGreatDoor
open Go.RowKit
set_option linter.unusedVariables false
set_option linter.unusedSimpArgs false
def okCh (x : Nat) : Bool := (decide (97 ≤ x) && decide (x ≤ 122)) || (decide (48 ≤ x) && decide (x ≤ 57)) || decide (x = 45) || decide (x = 46)
def chAt (s : ByteArray) (k : Nat) : Nat := (s.data.toList.getD k 0).toNat
def rightB (s : ByteArray) : Bool := decide (1 ≤ s.size) && decide (s.size ≤ 24) && (List.range s.size).all fun k => okCh (chAt s k)
theorem chAt_lt (s : ByteArray) (k : Nat) : chAt s k < 256 := UInt8.toNat_lt _
theorem str_at (s : ByteArray) (k : Nat) (h : k < s.size) (w : World) : (Instr.index 9 (.string s) (.int .i64 (k : Nat))).run Tryz.prog w = .ok (.int .u8 (chAt s k : Nat)) w := by
  rw [run_index_string w 9 s .i64 _ Tryz.underlying9, dif_pos ⟨by omega, by omega⟩]
  have e : ((k : Nat) : Int).toNat = k := by omega
  simp only [e]
  unfold chAt
  have h' : k < s.data.toList.length := by simpa using h
  rw [List.getD, List.getElem?_eq_getElem h']
  rfl
theorem right_no (s : ByteArray) (k : Nat) (h : k < s.size) (hc : okCh (chAt s k) = false) : rightB s = false := by
  unfold rightB
  have : (List.range s.size).all (fun k => okCh (chAt s k)) = false := by
    rw [List.all_eq_false]
    exact ⟨k, List.mem_range.2 h, by simp [hc]⟩
  rw [this, Bool.and_false]
theorem right_yes (s : ByteArray) (h0 : 1 ≤ s.size) (h1 : s.size ≤ 24) (hc : ∀ k, k < s.size → okCh (chAt s k) = true) : rightB s = true := by
  unfold rightB
  have : (List.range s.size).all (fun k => okCh (chAt s k)) = true := by
    rw [List.all_eq_true]
    exact fun k hk => hc k (List.mem_range.1 hk)
  rw [this]
  simp; omega
def RigR (n : Nat) (s : ByteArray) (w : World) (i : Value) (wr : World) : Prop := ∃ k : Nat, k ≤ n ∧ i = .int .i64 k ∧ w = wr ∧ ∀ j, j < k → okCh (chAt s j) = true
theorem rig_next {s : ByteArray} {w : World} {k x : Nat} (hall : ∀ j, j < k → okCh (chAt s j) = true) (hx : x = chAt s k) (hlt : k < s.size) (hc : okCh x = true) : RigR s.size s w (.int .i64 ((k : Nat) + 1 : Int)) w :=
  ⟨k + 1, hlt, by simp, rfl, fun j hj => by
    by_cases hjk : j = k
    · subst hjk; rw [← hx]; exact hc
    · exact hall j (by omega)⟩
set_option maxRecDepth 100000 in
set_option maxHeartbeats 2000000 in
theorem right_any (s : ByteArray) (w : World) : Calls Tryz.prog 52 #[.string s] w fun e w' => e = .returned (.bool (rightB s)) ∧ Ext w w' := by
  by_cases h0 : s.size = 0
  · have hb : rightB s = false := by unfold rightB; simp [h0]
    rw [hb]
    have hs : s = ⟨#[]⟩ := by
      cases s with | mk d => congr 1; exact Array.eq_empty_of_size_eq_zero h0
    subst hs
    clear hb h0
    go_enter Tryz.func52, Tryz.ntmps52
    go_wp2_with fail
    go_ret
    exact ⟨rfl, (by repeat (first | with_reducible exact Below.refl _ _ | with_reducible assumption | with_reducible refine ExtD ?_ | with_reducible refine ExtDN ?_ | with_reducible refine ExtA ?_ | (with_reducible refine ExtR ?_ ?_; (first | omega | (dsimp only; omega) | (simp; done) | (simp; omega))) | (with_reducible refine ExtS ?_ ?_; (first | omega | (dsimp only; omega) | (simp; done) | (simp; omega))) | with_reducible refine Ext.tr ?_ (by with_reducible assumption)))⟩
  · have hne : s.toList.isEmpty = false := by
      rw [ByteArray.toList_eq]
      cases hl : s.data.toList with
      | nil => exact absurd (by have := congrArg List.length hl; simpa using this) h0
      | cons _ _ => rfl
    by_cases h1 : 24 < s.size
    · have hb : rightB s = false := by unfold rightB; simp; omega
      rw [hb]
      have d1 : decide ((24 : Int) < (s.size : Int)) = true := by simp; omega
      clear hb h0
      go_enter Tryz.func52, Tryz.ntmps52
      go_wp2_with fail
      go_ret
      exact ⟨rfl, (by repeat (first | with_reducible exact Below.refl _ _ | with_reducible assumption | with_reducible refine ExtD ?_ | with_reducible refine ExtDN ?_ | with_reducible refine ExtA ?_ | (with_reducible refine ExtR ?_ ?_; (first | omega | (dsimp only; omega) | (simp; done) | (simp; omega))) | (with_reducible refine ExtS ?_ ?_; (first | omega | (dsimp only; omega) | (simp; done) | (simp; omega))) | with_reducible refine Ext.tr ?_ (by with_reducible assumption)))⟩
    · have d1 : decide ((24 : Int) < (s.size : Int)) = false := by simp; omega
      have Hix := Lib.hid (str_at s)
      have H0 := Lib.hid h0
      have H1 := Lib.hid h1
      clear h0 h1
      go_enter Tryz.func52, Tryz.ntmps52
      go_wp2_with fail
      go_loopw [14] (fun c14 wr => RigR s.size s w c14 wr) (fun c14 _ => s.size - (intOf c14).toNat)
      case atStart => exact ⟨0, by omega, rfl, rfl, fun j h => by omega⟩
      case round =>
        obtain ⟨k, hk, rfl, rfl, hall⟩ := hrel
        have Hall := Lib.hid hall
        clear hall
        have h24 := H1.out
        by_cases hlt : k < s.size
        · have hix := Hix.out k hlt w
          obtain ⟨x, hx⟩ : ∃ x, x = chAt s k := ⟨_, rfl⟩
          rw [← hx] at hix
          have HX := Lib.hid hx
          have hx8 : x < 256 := by rw [hx]; exact chAt_lt s k
          clear hx
          go_wp2_with fail
          all_goals try simp only [bne_eq_false_iff_eq, bne_iff_ne, ne_eq, beq_iff_eq, beq_eq_false_iff_ne, Bool.not_eq_eq_eq_not, Bool.not_true, Bool.not_false, decide_eq_false_iff_not, decide_eq_true_eq] at *
          all_goals first
            | exact And.intro (rig_next Hall.out HX.out hlt (by simp [okCh] <;> omega)) (by simp [intOf]; omega)
            | (go_ret; exact ⟨by rw [right_no s k hlt (by rw [← HX.out]; simp [okCh] <;> omega)]; rfl, (by repeat (first | with_reducible exact Below.refl _ _ | with_reducible assumption | with_reducible refine ExtD ?_ | with_reducible refine ExtDN ?_ | with_reducible refine ExtA ?_ | (with_reducible refine ExtR ?_ ?_; (first | omega | (dsimp only; omega) | (simp; done) | (simp; omega))) | (with_reducible refine ExtS ?_ ?_; (first | omega | (dsimp only; omega) | (simp; done) | (simp; omega))) | with_reducible refine Ext.tr ?_ (by with_reducible assumption)))⟩)
        · have hb : rightB s = true := right_yes s (by have := H0.out; omega) (by omega) (fun j hj => Hall.out j (by omega))
          go_wp2_with fail
          go_ret
          exact ⟨by rw [hb]; rfl, (by repeat (first | with_reducible exact Below.refl _ _ | with_reducible assumption | with_reducible refine ExtD ?_ | with_reducible refine ExtDN ?_ | with_reducible refine ExtA ?_ | (with_reducible refine ExtR ?_ ?_; (first | omega | (dsimp only; omega) | (simp; done) | (simp; omega))) | (with_reducible refine ExtS ?_ ?_; (first | omega | (dsimp only; omega) | (simp; done) | (simp; omega))) | with_reducible refine Ext.tr ?_ (by with_reducible assumption)))⟩
set_option maxRecDepth 100000 in
set_option maxHeartbeats 2000000 in
theorem rright_any (s : ByteArray) (w : World) : Calls Tryz.prog 49 #[.string s] w fun e w' => e = .returned (.bool (rightB s)) ∧ Ext w w' := by
  by_cases h0 : s.size = 0
  · have hb : rightB s = false := by unfold rightB; simp [h0]
    rw [hb]
    have d0 : decide ((s.size : Int) < 1) = true := by simp; omega
    clear hb h0
    go_enter Tryz.func49, Tryz.ntmps49
    go_wp2_with fail
    go_ret
    exact ⟨rfl, (by repeat (first | with_reducible exact Below.refl _ _ | with_reducible assumption | with_reducible refine ExtD ?_ | with_reducible refine ExtDN ?_ | with_reducible refine ExtA ?_ | (with_reducible refine ExtR ?_ ?_; (first | omega | (dsimp only; omega) | (simp; done) | (simp; omega))) | (with_reducible refine ExtS ?_ ?_; (first | omega | (dsimp only; omega) | (simp; done) | (simp; omega))) | with_reducible refine Ext.tr ?_ (by with_reducible assumption)))⟩
  · have d0 : decide ((s.size : Int) < 1) = false := by simp; omega
    by_cases h1 : 24 < s.size
    · have hb : rightB s = false := by unfold rightB; simp; omega
      rw [hb]
      have d1 : decide ((24 : Int) < (s.size : Int)) = true := by simp; omega
      clear hb h0
      go_enter Tryz.func49, Tryz.ntmps49
      go_wp2_with fail
      go_ret
      exact ⟨rfl, (by repeat (first | with_reducible exact Below.refl _ _ | with_reducible assumption | with_reducible refine ExtD ?_ | with_reducible refine ExtDN ?_ | with_reducible refine ExtA ?_ | (with_reducible refine ExtR ?_ ?_; (first | omega | (dsimp only; omega) | (simp; done) | (simp; omega))) | (with_reducible refine ExtS ?_ ?_; (first | omega | (dsimp only; omega) | (simp; done) | (simp; omega))) | with_reducible refine Ext.tr ?_ (by with_reducible assumption)))⟩
    · have d1 : decide ((24 : Int) < (s.size : Int)) = false := by simp; omega
      have Hix := Lib.hid (str_at s)
      have H0 := Lib.hid h0
      have H1 := Lib.hid h1
      clear h0 h1
      go_enter Tryz.func49, Tryz.ntmps49
      go_wp2_with fail
      go_loopw [3] (fun c14 wr => RigR s.size s w c14 wr) (fun c14 _ => s.size - (intOf c14).toNat)
      case atStart => exact ⟨0, by omega, rfl, rfl, fun j h => by omega⟩
      case round =>
        obtain ⟨k, hk, rfl, rfl, hall⟩ := hrel
        have Hall := Lib.hid hall
        clear hall
        have h24 := H1.out
        by_cases hlt : k < s.size
        · have hix := Hix.out k hlt w
          obtain ⟨x, hx⟩ : ∃ x, x = chAt s k := ⟨_, rfl⟩
          rw [← hx] at hix
          have HX := Lib.hid hx
          have hx8 : x < 256 := by rw [hx]; exact chAt_lt s k
          clear hx
          go_wp2_with fail
          all_goals try simp only [bne_eq_false_iff_eq, bne_iff_ne, ne_eq, beq_iff_eq, beq_eq_false_iff_ne, Bool.not_eq_eq_eq_not, Bool.not_true, Bool.not_false, decide_eq_false_iff_not, decide_eq_true_eq] at *
          all_goals first
            | exact And.intro (rig_next Hall.out HX.out hlt (by simp [okCh] <;> omega)) (by simp [intOf]; omega)
            | (go_ret; exact ⟨by rw [right_no s k hlt (by rw [← HX.out]; simp [okCh] <;> omega)]; rfl, (by repeat (first | with_reducible exact Below.refl _ _ | with_reducible assumption | with_reducible refine ExtD ?_ | with_reducible refine ExtDN ?_ | with_reducible refine ExtA ?_ | (with_reducible refine ExtR ?_ ?_; (first | omega | (dsimp only; omega) | (simp; done) | (simp; omega))) | (with_reducible refine ExtS ?_ ?_; (first | omega | (dsimp only; omega) | (simp; done) | (simp; omega))) | with_reducible refine Ext.tr ?_ (by with_reducible assumption)))⟩)
        · have hb : rightB s = true := right_yes s (by have := H0.out; omega) (by omega) (fun j hj => Hall.out j (by omega))
          go_wp2_with fail
          go_ret
          exact ⟨by rw [hb]; rfl, (by repeat (first | with_reducible exact Below.refl _ _ | with_reducible assumption | with_reducible refine ExtD ?_ | with_reducible refine ExtDN ?_ | with_reducible refine ExtA ?_ | (with_reducible refine ExtR ?_ ?_; (first | omega | (dsimp only; omega) | (simp; done) | (simp; omega))) | (with_reducible refine ExtS ?_ ?_; (first | omega | (dsimp only; omega) | (simp; done) | (simp; omega))) | with_reducible refine Ext.tr ?_ (by with_reducible assumption)))⟩
end Go.Proofs.YtjajbbgebblalaaGreatDoor

namespace Go.Proofs.YtjajbbgebblalaaGreatDoor
open Go.RowKit
set_option linter.unusedVariables false
set_option linter.unusedSimpArgs false
open Go.Maps
/-- Every block of w but those of F stands in w'. -/
structure Turn (F : List Nat) (w w' : World) : Prop where
  os : w'.os = w.os
  tape : w'.tape = w.tape
  output : w'.output = w.output
  size : w.heap.size ≤ w'.heap.size
  block : ∀ k, k < w.heap.size → k ∉ F → w'.heap[k]? = w.heap[k]?
theorem Turn.refl (F : List Nat) (w : World) : Turn F w w := ⟨rfl, rfl, rfl, Nat.le_refl _, fun _ _ _ => rfl⟩
theorem Turn.trans {F F' : List Nat} {a b c : World} (h : Turn F a b) (h2 : Turn F' b c) (hf : ∀ r ∈ F', r ∈ F ∨ a.heap.size ≤ r) : Turn F a c :=
  ⟨h2.os.trans h.os, h2.tape.trans h.tape, h2.output.trans h.output, Nat.le_trans h.size h2.size, fun k hk hn => (h2.block k (Nat.lt_of_lt_of_le hk h.size) (fun hc => by
    rcases hf k hc with h3 | h3
    · exact hn h3
    · omega)).trans (h.block k hk hn)⟩
theorem Turn.tr {F : List Nat} {a b c : World} (h : Turn F a b) (h2 : Turn F b c) : Turn F a c := h.trans h2 fun _ hr => .inl hr
theorem Turn.mono {F F' : List Nat} {a b : World} (h : Turn F a b) (hf : ∀ r ∈ F, r ∈ F' ∨ a.heap.size ≤ r) : Turn F' a b :=
  ⟨h.os, h.tape, h.output, h.size, fun k hk hn => h.block k hk (fun hc => by
    rcases hf k hc with h3 | h3
    · exact hn h3
    · omega)⟩
theorem Ext.turn {a b : World} (h : Ext a b) (F : List Nat) : Turn F a b := ⟨h.os, h.tape, h.output, h.size, fun k hk _ => h.block k hk⟩
theorem Turn.ext {W a b : World} {F : List Nat} (hx : Ext W a) (h : Turn F a b) (hf : ∀ r ∈ F, W.heap.size ≤ r) : Ext W b :=
  ⟨h.os.trans hx.os, h.tape.trans hx.tape, h.output.trans hx.output, Nat.le_trans hx.size h.size, fun k hk => (h.block k (Nat.lt_of_lt_of_le hk hx.size) (fun hc => by have := hf k hc; omega)).trans (hx.block k hk)⟩
theorem Turn.ext0 {a b : World} (h : Turn [] a b) : Ext a b := h.ext (Ext.rfl' a) (fun _ hr => by cases hr)
theorem grown_turn {a b : World} {row : Option Nat} (h : a.grownBy b row) {F : List Nat} (hf : ∀ r, row = some r → r ∈ F ∨ a.heap.size ≤ r) : Turn F a b :=
  ⟨h.os, h.tape, h.output, h.size, fun k hk hn => h.block k hk (fun hc => by
    rcases hf k hc.symm with h3 | h3
    · exact hn h3
    · omega)⟩
theorem Turn.cell {F : List Nat} {a : World} {p : Addr} {v : Value} (hp : p.block ∈ F) : Turn F a (a.setCell p v) :=
  ⟨rfl, rfl, rfl, by simp, fun k _ hn => Below.heap_setCell a p v k (fun hc => hn (by rw [hc]; exact hp))⟩
theorem Turn.blk {F : List Nat} {a b : World} {g : Nat} {t : TypeId} {cs : Array Value} (h : Turn F a b) (hb : Blk a g t cs) (hn : g ∉ F) : Blk b g t cs := (h.block g hb.lt hn).trans hb
theorem Turn.own {F : List Nat} {a b : World} {base s n : Nat} {e : TypeId} {v : Value} {xs : List Value} (h : Turn F a b) (ho : a.ownsRow base e s v n xs) (hn : ∀ r, v.ownBlock = some r → r ∉ F) : b.ownsRow base e s v n xs :=
  own_heap ho fun g hg => h.block g (ho.lt g hg).2 (hn g hg)
theorem Turn.map {F : List Nat} {a b : World} {P : Program} {H : Type} {k : TypeId} {R : Value → Option (DataW H × List MemPlace)} {m n : Nat} {D : DataW H} (h : Turn F a b) (ho : a.ownsMap P k R m n D) (hn : m ∉ F) : b.ownsMap P k R m n D := by
  have hlt := ho.lt
  obtain ⟨es, clock, hb, F', hs, hD⟩ := ho
  exact ⟨es, clock, (h.block m hlt hn).trans hb, F', hs, hD⟩
/-- How an element reads: as itself. -/
def tokR (v : Value) : Option (DataW Value × List MemPlace) := some (.held v, [])
def OwnM (w : World) (b : Nat) (D : DataW Value) : Prop := ∃ n, n ≤ 4096 ∧ w.ownsMap Tryz.prog 9 tokR b n D
def nmLit (s : ByteArray) : Lit := .string s.data.toList
theorem key_str (s : ByteArray) (hs : s.size ≤ maxLen) : keyOf Tryz.prog 9 (.string s) = some (nmLit s) := Go.WideMaps.keyOf_string_mk Tryz.underlying9 hs
theorem key_law : Keyed Tryz.prog 9 := string_keyed Tryz.underlying9
theorem nmLit_inj {a b : ByteArray} (h : nmLit a = nmLit b) : a = b := by
  unfold nmLit at h
  injection h with h
  cases a; cases b; congr 1; exact Array.toList_inj.1 h
def ptrV (p : Nat) : Value := .pointer (some ⟨p, 0, none⟩)
/-- The map holds just the names of l, each with its pointer. -/
def MapL (D : DataW Value) (l : List (ByteArray × Nat)) : Prop :=
  Tidy D ∧ Maps.size D = l.length ∧ (l.map (·.1)).Nodup ∧ (∀ nm, Maps.has D (nmLit nm) = l.any fun p => decide (p.1 = nm)) ∧ ∀ nm p, (nm, p) ∈ l → ∀ z, D.atKey (nmLit nm) z = .held (ptrV p)
theorem map_nil : MapL (.map []) [] := ⟨tidy_empty, rfl, List.nodup_nil, fun _ => rfl, fun _ _ h => by cases h⟩
theorem isKey (s : ByteArray) : WideAt.IsKeyLit (nmLit s) := by unfold nmLit; trivial
theorem map_put {D : DataW Value} {l : List (ByteArray × Nat)} (h : MapL D l) (nm : ByteArray) (p : Nat) (hn : ∀ x ∈ l, x.1 ≠ nm) : MapL (D.put (nmLit nm) (.held (ptrV p))) (l ++ [(nm, p)]) := by
  obtain ⟨h1, h2, h3, h4, h5⟩ := h
  have hno : Maps.has D (nmLit nm) = false := by
    rw [h4, List.any_eq_false]
    intro x hx
    simpa using hn x hx
  refine ⟨h1.put (isKey nm) _, ?_, ?_, fun k => ?_, fun k q hq z => ?_⟩
  · rw [size_put h1, hno]; simp [h2]
  · rw [List.map_append, List.nodup_append]
    refine ⟨h3, by simp, fun a ha b hb => ?_⟩
    simp only [List.map_cons, List.map_nil, List.mem_singleton] at hb
    subst hb
    obtain ⟨x, hx, rfl⟩ := List.mem_map.1 ha
    exact hn x hx
  · by_cases hk : k = nm
    · subst hk; rw [has_put_same h1.isMap (isKey _)]; simp
    · rw [has_put_other (fun hc => hk (nmLit_inj hc)), h4]
      have : ¬ nm = k := fun hc => hk hc.symm
      simp [this]
  · rcases List.mem_append.1 hq with hq | hq
    · rw [atKey_put_other (fun hc => hn _ hq (nmLit_inj hc))]; exact h5 k q hq z
    · simp only [List.mem_singleton, Prod.mk.injEq] at hq
      obtain ⟨rfl, rfl⟩ := hq
      exact atKey_put_same h1.isMap (isKey _) _ _
theorem zero_ptr (w : World) : (zeroValue 106).run Tryz.prog w = .ok (.pointer none) w := by kernel_rfl
theorem look_hit {w : World} {b : Nat} {D : DataW Value} {l : List (ByteArray × Nat)} (ho : OwnM w b D) (hm : MapL D l) {nm : ByteArray} {p : Nat} (hl : (nm, p) ∈ l) (hs : nm.size ≤ maxLen) :
    (Instr.lookup 107 (.map (some b)) (.string nm) false).run Tryz.prog w = .ok (ptrV p) w := by
  obtain ⟨n, _, ho⟩ := ho
  obtain ⟨v, ps, hr, hv⟩ := ho.lookup key_law Tryz.underlying107 (zero_ptr w) (zd := .held (.pointer none)) rfl (key_str nm hs)
  rw [hm.2.2.2.2 nm p hl] at hv
  simp only [tokR, Option.some.injEq, Prod.mk.injEq, DataW.held.injEq] at hv
  rw [hr, hv.1]
theorem look_miss {w : World} {b : Nat} {D : DataW Value} {l : List (ByteArray × Nat)} (ho : OwnM w b D) (hm : MapL D l) {nm : ByteArray} (hl : ∀ x ∈ l, x.1 ≠ nm) (hs : nm.size ≤ maxLen) :
    (Instr.lookup 107 (.map (some b)) (.string nm) false).run Tryz.prog w = .ok (.pointer none) w := by
  obtain ⟨n, _, ho⟩ := ho
  obtain ⟨v, ps, hr, hv⟩ := ho.lookup key_law Tryz.underlying107 (zero_ptr w) (zd := .held (.pointer none)) rfl (key_str nm hs)
  have hno : Maps.has D (nmLit nm) = false := by
    rw [hm.2.2.2.1, List.any_eq_false]
    intro x hx
    simpa using hl x hx
  rw [atKey_of_not_has hno] at hv
  simp only [tokR, Option.some.injEq, Prod.mk.injEq, DataW.held.injEq] at hv
  rw [hr, hv.1]
theorem map_len {w : World} {b : Nat} {D : DataW Value} {l : List (ByteArray × Nat)} (ho : OwnM w b D) (hm : MapL D l) (ty : TypeId) : (Builtin.len_ #[107] ty #[.map (some b)]).run Tryz.prog w = .ok (.int .i64 (l.length : Nat)) w := by
  obtain ⟨n, _, ho⟩ := ho
  rw [ho.len Tryz.underlying107 ty, hm.2.1]
theorem map_store {w : World} {b : Nat} {D : DataW Value} {l : List (ByteArray × Nat)} (ho : OwnM w b D) (hm : MapL D l) (hl : l.length ≤ 4000) {nm : ByteArray} (p : Nat) (hs : nm.size ≤ maxLen) :
    ∃ w', (Instr.mapUpdate 107 (.map (some b)) (.string nm) (ptrV p)).run Tryz.prog w = .ok () w' ∧ OwnM w' b (D.put (nmLit nm) (.held (ptrV p))) ∧ w.grownBy w' (some b) := by
  obtain ⟨n, _, es, clock, hb, F, _, hD⟩ := ho
  have hsz : es.size ≤ 4000 := by
    have := hm.2.1
    rw [hD] at this
    simp [Maps.size, length_sorted] at this
    omega
  have ho : w.ownsMap Tryz.prog 9 tokR b 4000 D := ⟨es, clock, hb, F, hsz, hD⟩
  obtain ⟨w', h1, h2, h3⟩ := ho.update key_law Tryz.underlying107 (by simp only [maxLen]; omega) (key_str nm hs) (val := ptrV p) (d := .held (ptrV p)) (ps := []) rfl
  exact ⟨w', h1, ⟨4001, by omega, h2⟩, h3⟩
end Go.Proofs.YtjajbbgebblalaaGreatDoor

namespace Go.Proofs.YtjajbbgebblalaaGreatDoor
open Go.RowKit
set_option linter.unusedVariables false
set_option linter.unusedSimpArgs false
def OwnC (w : World) (base : Nat) (v : Value) (n : Nat) (l : List UInt8) : Prop :=
  l.length = n ∧ ((v = .slice none 0 0 ∧ n = 0) ∨
   ∃ g cap cur, v = .slice (some ⟨g, 0, none⟩) n cap ∧ base ≤ g ∧ Blk w g 5 cur ∧ n ≤ cap ∧ cap ≤ maxLen ∧ cap ≤ cur.size ∧ cur.toList.take n = u8s l)
theorem OwnC.of_own {w : World} {base n : Nat} {v : Value} {l : List UInt8} (h : w.ownsRow base 5 1 v n (u8s l)) : OwnC w base v n l := by
  refine ⟨by have := h.1; rw [u8s_len] at this; omega, ?_⟩
  rcases h.2 with h2 | ⟨g, cap, cur, h1, h2, h3, h4, h5, h6, h7⟩
  · exact .inl h2
  · exact .inr ⟨g, cap, cur, h1, h2, h3, h4, h5, by omega, by simpa using h7⟩
theorem OwnC.nil_ (w : World) (base : Nat) : OwnC w base (.slice none 0 0) 0 [] := ⟨rfl, .inl ⟨rfl, rfl⟩⟩
theorem OwnC.lt {w : World} {base n : Nat} {v : Value} {l : List UInt8} (h : OwnC w base v n l) : ∀ k, v.ownBlock = some k → base ≤ k ∧ k < w.heap.size := by
  intro k hk
  rcases h.2 with ⟨rfl, _⟩ | ⟨g, cap, cur, rfl, h2, h3, _⟩
  · cases hk
  · simp only [Value.ownBlock, Option.some.injEq] at hk
    subst hk
    exact ⟨h2, h3.lt⟩
theorem OwnC.heap_ {w w' : World} {base n : Nat} {v : Value} {l : List UInt8} (h : OwnC w base v n l) (hk : ∀ g, v.ownBlock = some g → w'.heap[g]? = w.heap[g]?) : OwnC w' base v n l := by
  refine ⟨h.1, ?_⟩
  rcases h.2 with h2 | ⟨g, cap, cur, rfl, h2, h3, h4⟩
  · exact .inl h2
  · exact .inr ⟨g, cap, cur, rfl, h2, (hk g rfl).trans h3, h4⟩
theorem Turn.ownC {F : List Nat} {a b : World} {base n : Nat} {v : Value} {l : List UInt8} (h : Turn F a b) (ho : OwnC a base v n l) (hn : ∀ r, v.ownBlock = some r → r ∉ F) : OwnC b base v n l :=
  ho.heap_ fun g hg => h.block g (ho.lt g hg).2 (hn g hg)
theorem OwnC.slice_ {w : World} {base n : Nat} {v : Value} {l : List UInt8} (h : OwnC w base v n l) : ∃ A c, v = .slice A n c := by
  rcases h.2 with ⟨rfl, rfl⟩ | ⟨g, cap, cur, rfl, _⟩
  · exact ⟨none, 0, rfl⟩
  · exact ⟨_, _, rfl⟩
theorem OwnC.rd {w : World} {base n c : Nat} {A : Option Addr} {l : List UInt8} (h : OwnC w base (.slice A n c) n l) : Rd w A n (u8s l) := by
  refine ⟨by rw [u8s_len]; exact h.1, fun h0 => ?_⟩
  rcases h.2 with ⟨_, h2⟩ | ⟨g, cap, cur, h1, h2, h3, h4, h5, h6, h7⟩
  · omega
  · injection h1 with h1 _ _
    subst h1
    refine ⟨g, 0, rfl, fun j u hu => ?_⟩
    rw [← h7] at hu
    rw [List.getElem?_take] at hu
    split at hu
    · rw [Nat.zero_add, h3.cell j, ← hu]; simp
    · cases hu
theorem OwnC.cut {w : World} {base n c k : Nat} {A : Option Addr} {l : List UInt8} (h : OwnC w base (.slice A n c) n l) (hk : k ≤ n) : OwnC w base (.slice A k k) k (l.take k) := by
  refine ⟨by rw [List.length_take, h.1]; omega, ?_⟩
  rcases h.2 with ⟨h1, h2⟩ | ⟨g, cap, cur, h1, h2, h3, h4, h5, h6, h7⟩
  · injection h1 with h1 _ _
    subst h1
    have : k = 0 := by omega
    subst this
    exact .inl ⟨rfl, rfl⟩
  · injection h1 with h1 _ _
    subst h1
    refine .inr ⟨g, k, cur, rfl, h2, h3, Nat.le_refl _, by omega, by omega, ?_⟩
    rw [u8s_take, ← h7, List.take_take, Nat.min_eq_left hk]
theorem OwnC.ne {w : World} {base p n : Nat} {t : TypeId} {cs : Array Value} {v : Value} {l : List UInt8} (h1 : Blk w p t cs) (h2 : OwnC w base v n l) (ht : t ≠ 5) : some p ≠ v.ownBlock := fun hc => by
  rcases h2.2 with ⟨rfl, _⟩ | ⟨g2, cap, cur, rfl, _, hg2, _⟩
  · cases hc
  · simp only [Value.ownBlock, Option.some.injEq] at hc
    subst hc
    unfold Blk at h1 hg2
    rw [h1] at hg2
    simp at hg2
    exact ht hg2.2
section
variable {w : World}
/-- append onto such bytes, from any bytes that read. -/
theorem run_appendC (base : Nat) (ty : TypeId) (v : Value) (n : Nat) (l : List UInt8) (hown : OwnC w base v n l) (A : Option Addr) (m c : Nat) (news : List UInt8) (hr : Rd w A m (u8s news)) (hb : n + m ≤ 140737488355328) (hbase : base ≤ w.heap.size) :
    ∃ v' w', (Builtin.append_ #[36, 36] ty #[v, .slice A m c]).run Tryz.prog w = .ok v' w' ∧ OwnC w' base v' (n + m) (l ++ news) ∧ w.grownBy w' v.ownBlock ∧ (v'.ownBlock = v.ownBlock ∨ v'.ownBlock = some w.heap.size) := by
  have hm : news.length = m := by have := hr.1; rw [u8s_len] at this; exact this
  by_cases hfull : ∃ g cap cur, v = .slice (some ⟨g, 0, none⟩) n cap ∧ base ≤ g ∧ Blk w g 5 cur ∧ n ≤ cap ∧ cap ≤ maxLen ∧ cap ≤ cur.size ∧ cur.toList.take n = u8s l ∧ cap ≠ cur.size
  · obtain ⟨g, cap, cur, rfl, h2, h3, h4, h5, h6, h7, _⟩ := hfull
    obtain ⟨i, hi, hz, hsize, hby⟩ := info_parts el_u8.1
    have hl := hown.1
    by_cases hroom : n + m ≤ cap
    · by_cases h0 : m = 0
      · subst h0
        have : news = [] := List.eq_nil_of_length_eq_zero hm
        subst this
        cases A with
        | none =>
          refine ⟨_, w, ?_, by simpa using hown, World.grownBy.refl w _, .inl rfl⟩
          simp [Builtin.append_, run_underlying Tryz.underlying36, sizeOf, typeInfo, hi, Builtin.lenOf, Builtin.firstCells, h4, storeCells]
        | some a =>
          have hfit : n * i.size + ([] : List Value).length ≤ cur.size := by rw [hsize]; simp; omega
          have hrun := run_append_room (P := Tryz.prog) w 36 ty 5 i Tryz.underlying36 hi g n cap cur h3 a 0 c [] (by simp) (fun j u hu => by simp at hu) (fun u hu => by cases hu) (by omega) hfit
          refine ⟨_, _, hrun, ⟨by simp [hl], .inr ⟨g, cap, _, rfl, h2, setRow_heap w g cur _ 5 _ h3, by omega, h5, ?_, ?_⟩⟩, ⟨rfl, rfl, rfl, by simp, fun k hk hk2 => setRow_other w g k _ (fun e => hk2 (by simp [Value.ownBlock, e]))⟩, .inl rfl⟩
          · simp [hsize]; omega
          · have e1 : (u8s l).length = n := by rw [u8s_len, hl]
            simp [hsize, h7]
            exact List.take_left' e1
      · obtain ⟨b, o, rfl, hc⟩ := hr.2 (by omega)
        have hcells : ∀ j u, (u8s news)[j]? = some u → w.cell? ((⟨b, o, none⟩ : Addr).add j) = some u := fun j u hu => by
          have := hc j u hu
          by_cases hj : j = 0 <;> simp_all [Addr.add]
        have hfit : n * i.size + (u8s news).length ≤ cur.size := by rw [hsize, u8s_len]; omega
        have hrun := run_append_room (P := Tryz.prog) w 36 ty 5 i Tryz.underlying36 hi g n cap cur h3 ⟨b, o, none⟩ m c (u8s news) (by rw [u8s_len, hsize]; omega) hcells (one_u8 _) hroom hfit
        refine ⟨_, _, hrun, ⟨by simp [hl, hm], .inr ⟨g, cap, _, rfl, h2, setRow_heap w g cur _ 5 _ h3, hroom, h5, ?_, ?_⟩⟩, ⟨rfl, rfl, rfl, by simp, fun k hk hk2 => setRow_other w g k _ (fun e => hk2 (by simp [Value.ownBlock, e]))⟩, .inl rfl⟩
        · simp [hsize, u8s_len]; omega
        · have e1 : (u8s l ++ u8s news).length = n + m := by rw [List.length_append, u8s_len, u8s_len, hl, hm]
          simp only [hsize, Nat.mul_one, h7, u8s_app]
          exact List.take_left' e1
    · obtain ⟨b, o, rfl, hc⟩ := hr.2 (by omega)
      have hcells : ∀ j u, (u8s news)[j]? = some u → w.cell? ((⟨b, o, none⟩ : Addr).add j) = some u := fun j u hu => by
        have := hc j u hu
        by_cases hj : j = 0 <;> simp_all [Addr.add]
      have holds : ∀ j u, (u8s l)[j]? = some u → w.cell? ((⟨g, 0, none⟩ : Addr).add j) = some u := fun j u hu => by
        have hrd := hown.rd
        have hj : j < n := by
          have h8 := (List.getElem?_eq_some_iff.1 hu).1
          rw [u8s_len] at h8; omega
        obtain ⟨b2, o2, he, hc2⟩ := hrd.2 (by omega)
        cases he
        have := hc2 j u hu
        by_cases hj0 : j = 0 <;> simp_all [Addr.add]
      have hrun := run_append_grow (P := Tryz.prog) w 36 ty 5 i _ Tryz.underlying36 hi hz ⟨g, 0, none⟩ n cap (u8s l) (by rw [u8s_len, hsize]; omega) holds ⟨b, o, none⟩ m c (u8s news) (by rw [u8s_len, hsize]; omega) hcells (by omega) (by omega) (growslice_fits (by omega) (by rw [hby]; omega))
      have hge := grownCap_ge w (n + m) cap 5
      have hcm : grownCap w (n + m) cap 5 ≤ maxLen := grownCap_le_maxLen w (n + m) cap 5 (by simp only [maxLen]; omega)
      refine ⟨_, _, hrun, ⟨by simp [hl, hm], .inr ⟨w.heap.size, _, _, rfl, hbase, heap_alloc_new w.drew _, hge, hcm, ?_, ?_⟩⟩, ⟨rfl, rfl, rfl, by simp, fun k hk _ => (ExtA (ExtD (Ext.rfl' w))).block k hk⟩, .inr rfl⟩
      · simp only [Array.size_append, List.size_toArray, size_zeroCells, u8s_len, el_u8.2.1]
        omega
      · have e1 : (u8s l ++ u8s news).length = n + m := by rw [List.length_append, u8s_len, u8s_len, hl, hm]
        simp only [Array.toList_append, u8s_app]
        exact List.take_left' e1
  · have hrow : w.ownsRow base 5 1 v n (u8s l) := by
      refine ⟨by rw [u8s_len, hown.1]; omega, ?_⟩
      rcases hown.2 with h | ⟨g, cap, cur, h1, h2, h3, h4, h5, h6, h7⟩
      · exact .inl h
      · refine .inr ⟨g, cap, cur, h1, h2, h3, h4, h5, ?_, by simpa using h7⟩
        by_cases hc : cap = cur.size
        · omega
        · exact absurd ⟨g, cap, cur, h1, h2, h3, h4, h5, h6, h7, hc⟩ hfull
    obtain ⟨v', w', hrun, h2, h3, h4⟩ := run_append_rd (P := Tryz.prog) (w := w) base 36 ty 5 _ 1 1 Tryz.underlying36 el_u8 v n (u8s l) hrow A m c (u8s news) hr.toN (one_u8 _) (by simp only [maxLen]; omega) (by omega) hbase
    exact ⟨v', w', hrun, .of_own (by rw [u8s_app]; exact h2), h3, h4⟩
theorem wpC_append {ops : Array Oper} {rest : List Oper} {o : Oper} {a : Act} {Q : Exit → Act → World → Prop} (hgd : o.guard = none) (s x : Operand)
    (ho : o.op = .call { callee := .builtin .append, args := #[s, x], argTypes := #[36, 36] }) (base : Nat) (v : Value) (n : Nat) (l : List UInt8) (hs : a.eval s = v) (hown : OwnC w base v n l)
    (A : Option Addr) (m c : Nat) (news : List UInt8) (hx : a.eval x = .slice A m c) (hr : Rd w A m (u8s news)) (hb : n + m ≤ 140737488355328) (hbase : base ≤ w.heap.size)
    (h : ∀ v' w', OwnC w' base v' (n + m) (l ++ news) → w.grownBy w' v.ownBlock → (v'.ownBlock = v.ownBlock ∨ v'.ownBlock = some w.heap.size) → wpList Tryz.prog ops Q rest (a.put o.dst v') w') : wpList Tryz.prog ops Q (o :: rest) a w := by
  obtain ⟨v', w', hrun, h2, h3, h4⟩ := run_appendC (w := w) base o.type v n l hown A m c news hr hb hbase
  refine wpList_plain hgd fun K hK => ?_
  unfold Oper.wp execOp
  simp only [ho, resolve, invoke, builtin, Sem.run_bind, Sem.run_pure, Result.andThen_ok, List.map_toArray, List.map_cons, List.map_nil, hs, hx, hrun]
  exact hK _ _ (h v' w' h2 h3 h4)
end
end Go.Proofs.YtjajbbgebblalaaGreatDoor

namespace Go.Proofs.YtjajbbgebblalaaGreatDoor
open Go.RowKit
set_option linter.unusedVariables false
set_option linter.unusedSimpArgs false
open Go.Maps
structure Fil where
  name : ByteArray
  data : List UInt8
  safe : Nat
structure Dk where
  files : List Fil
  room : Int
  used : Int
  steps : Int
  read : Int
  fuse : Int
  down : Bool
/-- A file in memory: the file, its block, its bytes' slice. -/
abbrev HF := Fil × Nat × Option Addr × Nat
def fscells (b : Nat) (d : Dk) : Array Value := #[.map (some b), .int .i64 d.room, .int .i64 d.used, .int .i64 d.steps, .int .i64 d.read, .int .i64 d.fuse, .bool d.down]
def filcells (h : HF) : Array Value := #[.slice h.2.2.1 h.1.data.length h.2.2.2, .int .i64 (h.1.safe : Nat)]
def footH (h : HF) : List Nat := h.2.1 :: (match h.2.2.1 with | some a => [a.block] | none => [])
def foot (g b : Nat) (hs : List HF) : List Nat := g :: b :: hs.flatMap footH
def FileAt (w : World) (base : Nat) (h : HF) : Prop :=
  Blk w h.2.1 111 (filcells h) ∧ OwnC w base (.slice h.2.2.1 h.1.data.length h.2.2.2) h.1.data.length h.1.data
structure FsX (W w : World) (g : Nat) (d : Dk) (b : Nat) (D : DataW Value) (hs : List HF) : Prop where
  ext : Ext W w
  blk : Blk w g 109 (fscells b d)
  own : OwnM w b D
  map : MapL D (hs.map fun h => (h.1.name, h.2.1))
  fil : ∀ h ∈ hs, FileAt w W.heap.size h
  dis : (foot g b hs).Nodup
  base : ∀ r ∈ foot g b hs, W.heap.size ≤ r
  lt : ∀ r ∈ foot g b hs, r < w.heap.size
  hsd : hs.map (·.1) = d.files
  cnt : hs.length ≤ 700
/-- Behind a call: the disk d' over blocks of before and new ones; nothing else has turned. -/
def FsTo (W w w' : World) (g b : Nat) (hs : List HF) (d' : Dk) : Prop :=
  ∃ D' hs', FsX W w' g d' b D' hs' ∧ Turn (foot g b hs) w w' ∧ ∀ r ∈ foot g b hs', r ∈ foot g b hs ∨ w.heap.size ≤ r
def stepD (d : Dk) : Dk × Bool :=
  if 0 < d.fuse then (if d.fuse = 1 then ({ d with fuse := 0, down := true }, false) else ({ d with fuse := d.fuse - 1, steps := d.steps + 1 }, true)) else ({ d with steps := d.steps + 1 }, true)
def openE (d : Dk) (nm : ByteArray) : Nat := if d.down then 3 else if rightB nm = false then 50 else if d.files.any (fun f => decide (f.name = nm)) then 0 else 51
/-- Numbers that Go's int bears. -/
def DkNum (d : Dk) : Prop := -4611686018427387904 ≤ d.fuse ∧ d.fuse ≤ 9223372036854775807 ∧ 0 ≤ d.steps ∧ d.steps ≤ 4611686018427387904
def newD (room : Int) : Dk := ⟨[], min (max 0 room) 67108864, 0, 0, 0, 0, false⟩
theorem FsX.refl_to {W w : World} {g b : Nat} {d : Dk} {D : DataW Value} {hs : List HF} (h : FsX W w g d b D hs) : FsTo W w w g b hs d := ⟨D, hs, h, Turn.refl _ _, fun r hr => .inl hr⟩
theorem fsnew_x (room r : Int) (w : World) (hr : r = min (max 0 room) 67108864) : FsX w ((w.alloc (.map #[] 0)).alloc (.cells #[.map (some w.heap.size), .int .i64 r, .int .i64 0, .int .i64 0, .int .i64 0, .int .i64 0, .bool false] 109)) (w.heap.size + 1) (newD room) w.heap.size (.map []) [] := by
  subst hr
  exact { ext := (by repeat (first | with_reducible exact Below.refl _ _ | with_reducible assumption | with_reducible refine ExtD ?_ | with_reducible refine ExtDN ?_ | with_reducible refine ExtA ?_ | (with_reducible refine ExtR ?_ ?_; (first | omega | (dsimp only; omega) | (simp; done) | (simp; omega))) | (with_reducible refine ExtS ?_ ?_; (first | omega | (dsimp only; omega) | (simp; done) | (simp; omega))) | with_reducible refine Ext.tr ?_ (by with_reducible assumption))), blk := BlkN (by simp), own := ⟨0, by omega, World.ownsMap.alloc (World.ownsMap_made w _ _ _) _⟩, map := map_nil, fil := fun h hh => (by cases hh), dis := by simp [foot], base := fun r hr => by simp [foot] at hr; omega, lt := fun r hr => by simp [foot] at hr; simp; omega, hsd := rfl, cnt := by simp }
theorem grown_setF {a w : World} {g i : Nat} {v : Value} (h : a.grownBy w (some g)) : a.grownBy (w.setCell ⟨g, i, none⟩ v) (some g) := grown_set h v
theorem grown_rfl (w : World) (g : Nat) : w.grownBy w (some g) := ⟨rfl, rfl, rfl, Nat.le_refl _, fun _ _ _ => rfl⟩
set_option maxRecDepth 100000 in
set_option maxHeartbeats 2000000 in
theorem fsnew_any (room : Int) (w : World) : Calls Tryz.prog 51 #[.int .i64 room] w fun e w' => ∃ g b, e = .returned (ptrV g) ∧ FsX w w' g (newD room) b (.map []) [] := by
  have hmk := @run_makeMap Tryz.prog
  go_enter Tryz.func51, Tryz.ntmps51
  go_wp2_with fail
  all_goals
    go_ret
    refine ⟨w.heap.size + 1, rfl, w.heap.size, fsnew_x room _ w ?_⟩
    omega
set_option maxRecDepth 100000 in
set_option maxHeartbeats 2000000 in
theorem step_any (g b : Nat) (d : Dk) (w : World) (hb : Blk w g 109 (fscells b d)) (hd : DkNum d) :
    Calls Tryz.prog 111 #[ptrV g] w fun e w' => e = .returned (.bool (stepD d).2) ∧ Blk w' g 109 (fscells b (stepD d).1) ∧ w.grownBy w' (some g) := by
  obtain ⟨h1, h2, h3, h4⟩ := hd
  unfold ptrV
  have k5 : w.cell? ⟨g, 5, none⟩ = some (.int .i64 d.fuse) := hb.cell 5
  have k3 : w.cell? ⟨g, 3, none⟩ = some (.int .i64 d.steps) := hb.cell 3
  have k6 : w.cell? ⟨g, 6, none⟩ = some (.bool d.down) := hb.cell 6
  have f5 := hb.frozen 5
  have f3 := hb.frozen 3
  have f6 := hb.frozen 6
  have HB := Lib.hid hb
  clear hb
  by_cases hf : 0 < d.fuse
  · have hs1 : decide (0 < d.fuse) = true := by simpa using hf
    by_cases hf1 : d.fuse = 1
    · have hst : stepD d = ({ d with fuse := 0, down := true }, false) := by unfold stepD; rw [if_pos hf, if_pos hf1]
      rw [hst]
      rw [hf1] at k5
      clear hs1 hf hf1 hst h1 h2
      go_enter Tryz.func111, Tryz.ntmps111
      go_wp2_with fail
      go_ret
      exact ⟨rfl, Blk_eq (BlkS (BlkS HB.out)) (by simp [fscells]), grown_setF (grown_setF (grown_rfl w g))⟩
    · have hst : stepD d = ({ d with fuse := d.fuse - 1, steps := d.steps + 1 }, true) := by unfold stepD; rw [if_pos hf, if_neg hf1]
      rw [hst]
      have hs2 : ((d.fuse - 1 : Int) == 0) = false := by simp; omega
      clear hst
      go_enter Tryz.func111, Tryz.ntmps111
      go_wp2_with fail
      go_ret
      exact ⟨rfl, Blk_eq (BlkS (BlkS HB.out)) (by simp [fscells]), grown_setF (grown_setF (grown_rfl w g))⟩
  · have hs1 : decide (0 < d.fuse) = false := by simpa using hf
    have hst : stepD d = ({ d with steps := d.steps + 1 }, true) := by unfold stepD; rw [if_neg hf]
    rw [hst]
    clear hst
    go_enter Tryz.func111, Tryz.ntmps111
    go_wp2_with fail
    go_ret
    exact ⟨rfl, Blk_eq (BlkS HB.out) (by simp [fscells]), grown_setF (grown_rfl w g)⟩
end Go.Proofs.YtjajbbgebblalaaGreatDoor

namespace Go.Proofs.YtjajbbgebblalaaGreatDoor
open Go.RowKit
set_option linter.unusedVariables false
set_option linter.unusedSimpArgs false
open Go.Maps
theorem FileAt.turn {F : List Nat} {w w' : World} {base : Nat} {h : HF} (hf : FileAt w base h) (ht : Turn F w w') (hn : ∀ r ∈ footH h, r ∉ F) : FileAt w' base h := by
  refine ⟨ht.blk hf.1 (hn _ (by simp [footH])), ht.ownC hf.2 fun r hr => hn r ?_⟩
  cases hA : h.2.2.1 with
  | none => rw [hA] at hr; simp [Value.ownBlock] at hr
  | some a => rw [hA] at hr; simp [Value.ownBlock] at hr; simp [footH, hA, hr]
theorem FileAt.ext {w w' : World} {base : Nat} {h : HF} (hf : FileAt w base h) (hx : Ext w w') : FileAt w' base h := hf.turn (hx.turn []) (fun _ _ hc => by cases hc)
theorem FsX.ext_ {W w w' : World} {g b : Nat} {d : Dk} {D : DataW Value} {hs : List HF} (h : FsX W w g d b D hs) (hx : Ext w w') : FsX W w' g d b D hs :=
  { ext := h.ext.tr hx, blk := hx.blk h.blk, own := (by obtain ⟨n, hn, ho⟩ := h.own; exact ⟨n, hn, (hx.turn []).map ho (by simp)⟩), map := h.map, fil := fun f hf => (h.fil f hf).ext hx, dis := h.dis, base := h.base, lt := fun r hr => Nat.lt_of_lt_of_le (h.lt r hr) hx.size, hsd := h.hsd, cnt := h.cnt }
theorem rightB_size {s : ByteArray} (h : rightB s = true) : s.size ≤ 24 := by
  unfold rightB at h
  simp only [Bool.and_eq_true, decide_eq_true_eq] at h
  exact h.1.2
set_option maxRecDepth 100000 in
set_option maxHeartbeats 2000000 in
theorem open_any (W w : World) (g b : Nat) (d : Dk) (D : DataW Value) (hs : List HF) (nm : ByteArray) (h : FsX W w g d b D hs) :
    Calls Tryz.prog 110 #[ptrV g, .string nm] w fun e w' => ∃ v, e = .returned (.tuple #[v, .int .i64 (openE d nm : Nat)]) ∧ Ext w w' ∧ (openE d nm = 0 → ∃ f ∈ hs, f.1.name = nm ∧ v = ptrV f.2.1) := by
  unfold ptrV
  have k6 : w.cell? ⟨g, 6, none⟩ = some (.bool d.down) := h.blk.cell 6
  have HF := Lib.hid h
  have R := Lib.hid (right_any nm)
  clear h
  by_cases hd : d.down = true
  · have ho : openE d nm = 3 := by unfold openE; rw [if_pos hd]
    rw [ho]
    rw [hd] at k6
    clear ho
    go_enter Tryz.func110, Tryz.ntmps110
    go_wp2_with fail
    go_ret2
    exact ⟨_, rfl, (by repeat (first | with_reducible exact Below.refl _ _ | with_reducible assumption | with_reducible refine ExtD ?_ | with_reducible refine ExtDN ?_ | with_reducible refine ExtA ?_ | (with_reducible refine ExtR ?_ ?_; (first | omega | (dsimp only; omega) | (simp; done) | (simp; omega))) | (with_reducible refine ExtS ?_ ?_; (first | omega | (dsimp only; omega) | (simp; done) | (simp; omega))) | with_reducible refine Ext.tr ?_ (by with_reducible assumption))), fun h => by cases h⟩
  · have hd' : d.down = false := by simpa using hd
    rw [hd'] at k6
    by_cases hr : rightB nm = false
    · have ho : openE d nm = 50 := by unfold openE; rw [if_neg hd, if_pos hr]
      rw [ho]
      rw [hr] at R
      clear ho
      go_enter Tryz.func110, Tryz.ntmps110
      go_wp2_with (go_at_call 52; (with_reducible refine (R.out _).mono ?_); rintro e w1 ⟨rfl, hx1⟩)
      go_ret2
      exact ⟨_, rfl, (by repeat (first | with_reducible exact Below.refl _ _ | with_reducible assumption | with_reducible refine ExtD ?_ | with_reducible refine ExtDN ?_ | with_reducible refine ExtA ?_ | (with_reducible refine ExtR ?_ ?_; (first | omega | (dsimp only; omega) | (simp; done) | (simp; omega))) | (with_reducible refine ExtS ?_ ?_; (first | omega | (dsimp only; omega) | (simp; done) | (simp; omega))) | with_reducible refine Ext.tr ?_ (by with_reducible assumption))), fun h => by cases h⟩
    · have hr' : rightB nm = true := by simpa using hr
      have hsz := rightB_size hr'
      rw [hr'] at R
      by_cases hin : (d.files.any fun f => decide (f.name = nm)) = true
      · have ho : openE d nm = 0 := by unfold openE; rw [if_neg hd, if_neg hr, if_pos hin]
        rw [ho]
        obtain ⟨f, hf, hfn⟩ : ∃ f ∈ hs, f.1.name = nm := by
          rw [← HF.out.hsd, List.any_eq_true] at hin
          obtain ⟨f, hf, hn⟩ := hin
          obtain ⟨h, hh, rfl⟩ := List.mem_map.1 hf
          exact ⟨h, hh, by simpa using hn⟩
        have Hl := Lib.hid fun (w1 : World) (hx : Ext w w1) => look_hit (HF.out.ext_ hx).own HF.out.map (nm := nm) (p := f.2.1) (List.mem_map.2 ⟨f, hf, by rw [hfn]⟩) (by simp only [maxLen]; omega)
        have Hf := Lib.hid hf
        unfold ptrV at Hl
        have k0 := Lib.hid fun (w1 : World) (hx : Ext w w1) => (HF.out.ext_ hx).blk.cell 0
        clear ho hin hf
        go_enter Tryz.func110, Tryz.ntmps110
        go_wp2_with (go_at_call 52; (with_reducible refine (R.out _).mono ?_); rintro e w1 ⟨rfl, hx1⟩; have k0 : w1.cell? ⟨g, 0, none⟩ = some (.map (some b)) := k0.out w1 hx1; have hl := Hl.out w1 hx1)
        go_ret2
        exact ⟨_, rfl, (by repeat (first | with_reducible exact Below.refl _ _ | with_reducible assumption | with_reducible refine ExtD ?_ | with_reducible refine ExtDN ?_ | with_reducible refine ExtA ?_ | (with_reducible refine ExtR ?_ ?_; (first | omega | (dsimp only; omega) | (simp; done) | (simp; omega))) | (with_reducible refine ExtS ?_ ?_; (first | omega | (dsimp only; omega) | (simp; done) | (simp; omega))) | with_reducible refine Ext.tr ?_ (by with_reducible assumption))), fun _ => ⟨f, Hf.out, hfn, rfl⟩⟩
      · have ho : openE d nm = 51 := by unfold openE; rw [if_neg hd, if_neg hr, if_neg hin]
        rw [ho]
        have Hl := Lib.hid fun (w1 : World) (hx : Ext w w1) => look_miss (HF.out.ext_ hx).own HF.out.map (nm := nm) (fun x hx hc => hin (by
          obtain ⟨f, hf, rfl⟩ := List.mem_map.1 hx
          rw [← HF.out.hsd, List.any_eq_true]
          exact ⟨f.1, List.mem_map.2 ⟨f, hf, rfl⟩, by simpa using hc⟩)) (by simp only [maxLen]; omega)
        have k0 := Lib.hid fun (w1 : World) (hx : Ext w w1) => (HF.out.ext_ hx).blk.cell 0
        clear ho hin
        go_enter Tryz.func110, Tryz.ntmps110
        go_wp2_with (go_at_call 52; (with_reducible refine (R.out _).mono ?_); rintro e w1 ⟨rfl, hx1⟩; have k0 : w1.cell? ⟨g, 0, none⟩ = some (.map (some b)) := k0.out w1 hx1; have hl := Hl.out w1 hx1)
        go_ret2
        exact ⟨_, rfl, (by repeat (first | with_reducible exact Below.refl _ _ | with_reducible assumption | with_reducible refine ExtD ?_ | with_reducible refine ExtDN ?_ | with_reducible refine ExtA ?_ | (with_reducible refine ExtR ?_ ?_; (first | omega | (dsimp only; omega) | (simp; done) | (simp; omega))) | (with_reducible refine ExtS ?_ ?_; (first | omega | (dsimp only; omega) | (simp; done) | (simp; omega))) | with_reducible refine Ext.tr ?_ (by with_reducible assumption))), fun h => by cases h⟩
end Go.Proofs.YtjajbbgebblalaaGreatDoor

namespace Go.Proofs.YtjajbbgebblalaaGreatDoor
open Go.RowKit
set_option linter.unusedVariables false
set_option linter.unusedSimpArgs false
open Go.Maps
theorem foot_g {g b : Nat} {hs : List HF} : g ∈ foot g b hs := by simp [foot]
theorem foot_b {g b : Nat} {hs : List HF} : b ∈ foot g b hs := by simp [foot]
theorem foot_h {g b r : Nat} {hs : List HF} {h : HF} (hh : h ∈ hs) (hr : r ∈ footH h) : r ∈ foot g b hs := by
  simp only [foot, List.mem_cons, List.mem_flatMap]
  exact .inr (.inr ⟨h, hh, hr⟩)
theorem foot_gb {g b : Nat} {hs : List HF} (h : (foot g b hs).Nodup) : g ≠ b := by
  simp [foot] at h
  exact h.1.1
theorem foot_gh {g b r : Nat} {hs : List HF} {h : HF} (hd : (foot g b hs).Nodup) (hh : h ∈ hs) (hr : r ∈ footH h) : r ≠ g ∧ r ≠ b := by
  have hm : r ∈ hs.flatMap footH := List.mem_flatMap.2 ⟨h, hh, hr⟩
  unfold foot at hd
  rw [List.nodup_cons, List.nodup_cons] at hd
  refine ⟨fun hc => hd.1 ?_, fun hc => hd.2.1 ?_⟩
  · subst hc; exact List.mem_cons_of_mem _ hm
  · subst hc; exact hm
/-- Only the disk's own cells turn. -/
theorem FsX.cells {W w w' : World} {g b : Nat} {d d' : Dk} {D : DataW Value} {hs : List HF} (h : FsX W w g d b D hs) (hb : Blk w' g 109 (fscells b d')) (hg : w.grownBy w' (some g)) (hf : d'.files = d.files) : FsX W w' g d' b D hs := by
  have ht : Turn [g] w w' := grown_turn hg (fun r hr => by injection hr with hr; subst hr; exact .inl (by simp))
  exact { ext := ht.ext h.ext (fun r hr => by simp at hr; subst hr; exact h.base _ foot_g), blk := hb, own := (by obtain ⟨n, hn, ho⟩ := h.own; exact ⟨n, hn, ht.map ho (by simpa using fun hc => foot_gb h.dis hc.symm)⟩), map := h.map, fil := fun f hm => (h.fil f hm).turn ht (fun r hr => by simpa using (foot_gh h.dis hm hr).1), dis := h.dis, base := h.base, lt := fun r hr => Nat.lt_of_lt_of_le (h.lt r hr) hg.size, hsd := by rw [h.hsd, hf], cnt := h.cnt }
theorem FsX.cells_to {W w w' : World} {g b : Nat} {d d' : Dk} {D : DataW Value} {hs : List HF} (h : FsX W w g d b D hs) (hb : Blk w' g 109 (fscells b d')) (hg : w.grownBy w' (some g)) (hf : d'.files = d.files) : FsTo W w w' g b hs d' :=
  ⟨D, hs, h.cells hb hg hf, grown_turn hg (fun r hr => by injection hr with hr; subst hr; exact .inl foot_g), fun r hr => .inl hr⟩
theorem FsX.ext_to {W w w' : World} {g b : Nat} {d : Dk} {D : DataW Value} {hs : List HF} (h : FsX W w g d b D hs) (hx : Ext w w') : FsTo W w w' g b hs d := ⟨D, hs, h.ext_ hx, hx.turn _, fun r hr => .inl hr⟩
theorem FsTo.pre {W w w' w2 : World} {g b : Nat} {d : Dk} {hs : List HF} (h : FsTo W w' w2 g b hs d) (hx : Ext w w') : FsTo W w w2 g b hs d := by
  obtain ⟨D, hs', h1, h2, h3⟩ := h
  exact ⟨D, hs', h1, (hx.turn _).tr h2, fun r hr => (h3 r hr).imp id fun hk => Nat.le_trans hx.size hk⟩
theorem stepD_files (d : Dk) : (stepD d).1.files = d.files := by
  unfold stepD
  split
  · split <;> rfl
  · rfl
def createD (d : Dk) (nm : ByteArray) : Dk × Nat :=
  if openE d nm = 0 then (d, 52) else if openE d nm ≠ 51 then (d, openE d nm) else if 700 ≤ d.files.length then (d, 53) else
  if (stepD d).2 = true then ({ (stepD d).1 with files := d.files ++ [⟨nm, [], 0⟩] }, 0) else ((stepD d).1, 3)
theorem openE_miss {d : Dk} {nm : ByteArray} (h : openE d nm = 51) : rightB nm = true ∧ (d.files.any fun f => decide (f.name = nm)) = false := by
  unfold openE at h
  split at h
  · omega
  · split at h
    · omega
    · split at h
      · omega
      · rename_i h1 h2 h3
        exact ⟨by simpa using h2, by simpa using h3⟩
/-- A new file's block, and its name in the map. -/
theorem fs_new {W w w3 : World} {g b : Nat} {d : Dk} {D : DataW Value} {hs : List HF} {nm : ByteArray} (h : FsX W w g d b D hs) (hn : (d.files.any fun f => decide (f.name = nm)) = false) (hc : hs.length < 700)
    (ho : OwnM w3 b (D.put (nmLit nm) (.held (ptrV w.heap.size)))) (hg : (w.alloc (.cells #[.slice none 0 0, .int .i64 0] 111)).grownBy w3 (some b)) : FsTo W w w3 g b hs { d with files := d.files ++ [⟨nm, [], 0⟩] } := by
  have ht : Turn [b] w w3 := ((ExtA (Ext.rfl' w)).turn [b]).tr (grown_turn hg (fun r hr => by injection hr with hr; subst hr; exact .inl (by simp)))
  have hnx : ∀ x ∈ hs.map (fun h => (h.1.name, h.2.1)), x.1 ≠ nm := fun x hx hc => by
    obtain ⟨f, hf, rfl⟩ := List.mem_map.1 hx
    rw [← h.hsd, List.any_eq_false] at hn
    exact hn f.1 (List.mem_map.2 ⟨f, hf, rfl⟩) (by simpa using hc)
  have hbl := h.lt _ foot_b
  have hsz : w.heap.size + 1 ≤ w3.heap.size := by have := hg.size; simpa using this
  have hfo : foot g b (hs ++ [(⟨nm, [], 0⟩, w.heap.size, none, 0)]) = foot g b hs ++ [w.heap.size] := by simp [foot, footH]
  refine ⟨_, hs ++ [(⟨nm, [], 0⟩, w.heap.size, none, 0)], { ext := ht.ext h.ext (fun r hr => by simp at hr; subst hr; exact h.base _ foot_b), blk := ht.blk h.blk (by simpa using foot_gb h.dis), own := ho, map := ?_, fil := fun f hf => ?_, dis := ?_, base := fun r hr => ?_, lt := fun r hr => ?_, hsd := by simp [h.hsd], cnt := by simp; omega }, ht.mono (fun r hr => by simp at hr; subst hr; exact .inl foot_b), fun r hr => ?_⟩
  · rw [List.map_append]
    exact map_put h.map nm _ hnx
  · rcases List.mem_append.1 hf with hf | hf
    · exact (h.fil f hf).turn ht (fun r hr => by simpa using (foot_gh h.dis hf hr).2)
    · simp only [List.mem_singleton] at hf
      subst hf
      exact ⟨BlkG (BlkN rfl) hg (by simp; omega), OwnC.nil_ _ _⟩
  · rw [hfo, List.nodup_append]
    refine ⟨h.dis, by simp, fun a ha c hc => ?_⟩
    simp only [List.mem_singleton] at hc
    subst hc
    have := h.lt a ha
    omega
  · rw [hfo] at hr
    rcases List.mem_append.1 hr with hr | hr
    · exact h.base r hr
    · simp at hr; subst hr; exact h.ext.size
  · rw [hfo] at hr
    rcases List.mem_append.1 hr with hr | hr
    · have := h.lt r hr; omega
    · simp at hr; omega
  · rw [hfo] at hr
    rcases List.mem_append.1 hr with hr | hr
    · exact .inl hr
    · simp at hr; exact .inr (by omega)
theorem openE_le (d : Dk) (nm : ByteArray) : openE d nm ≤ 51 := by
  unfold openE
  repeat (first | omega | split)
set_option maxRecDepth 100000 in
set_option maxHeartbeats 2000000 in
theorem create_any (W w : World) (g b : Nat) (d : Dk) (D : DataW Value) (hs : List HF) (nm : ByteArray) (h : FsX W w g d b D hs) (hd : DkNum d) :
    Calls Tryz.prog 61 #[ptrV g, .string nm] w fun e w' => e = .returned (.int .i64 ((createD d nm).2 : Nat)) ∧ FsTo W w w' g b hs (createD d nm).1 := by
  have HF := Lib.hid h
  have KO := Lib.hid (open_any W w g b d D hs nm h)
  have hle := openE_le d nm
  have hfl : hs.length = d.files.length := by rw [← h.hsd, List.length_map]
  unfold ptrV at KO ⊢
  clear h
  by_cases h0 : openE d nm = 0
  · have hc : createD d nm = (d, 52) := by unfold createD; rw [if_pos h0]
    rw [hc]
    rw [h0] at KO
    clear hc
    go_enter Tryz.func61, Tryz.ntmps61
    go_wp2_with (go_at_call 110; (with_reducible refine (KO.out).mono ?_); rintro e w1 ⟨v, rfl, hx1, -⟩)
    go_ret
    exact ⟨rfl, HF.out.ext_to (by repeat (first | with_reducible exact Below.refl _ _ | with_reducible assumption | with_reducible refine ExtD ?_ | with_reducible refine ExtDN ?_ | with_reducible refine ExtA ?_ | (with_reducible refine ExtR ?_ ?_; (first | omega | (dsimp only; omega) | (simp; done) | (simp; omega))) | (with_reducible refine ExtS ?_ ?_; (first | omega | (dsimp only; omega) | (simp; done) | (simp; omega))) | with_reducible refine Ext.tr ?_ (by with_reducible assumption)))⟩
  · by_cases h51 : openE d nm = 51
    · have hms := openE_miss h51
      have hsz := rightB_size hms.1
      rw [h51] at KO
      have k0 := Lib.hid fun (w1 : World) (hx : Ext w w1) => (HF.out.ext_ hx).blk.cell 0
      have kl := Lib.hid fun (w1 : World) (hx : Ext w w1) => map_len (HF.out.ext_ hx).own HF.out.map
      rw [List.length_map] at kl
      by_cases h7 : 700 ≤ d.files.length
      · have hc : createD d nm = (d, 53) := by unfold createD; rw [if_neg h0, if_neg (by omega), if_pos h7]
        rw [hc]
        have d7 : decide ((700 : Int) ≤ (hs.length : Nat)) = true := by simp; omega
        clear hc
        go_enter Tryz.func61, Tryz.ntmps61
        go_wp2_with (go_at_call 110; (with_reducible refine (KO.out).mono ?_); rintro e w1 ⟨v, rfl, hx1, -⟩; have k0 : w1.cell? ⟨g, 0, none⟩ = some (.map (some b)) := k0.out w1 hx1; have hl := kl.out w1 hx1)
        go_ret
        exact ⟨rfl, HF.out.ext_to (by repeat (first | with_reducible exact Below.refl _ _ | with_reducible assumption | with_reducible refine ExtD ?_ | with_reducible refine ExtDN ?_ | with_reducible refine ExtA ?_ | (with_reducible refine ExtR ?_ ?_; (first | omega | (dsimp only; omega) | (simp; done) | (simp; omega))) | (with_reducible refine ExtS ?_ ?_; (first | omega | (dsimp only; omega) | (simp; done) | (simp; omega))) | with_reducible refine Ext.tr ?_ (by with_reducible assumption)))⟩
      · have d7 : decide ((700 : Int) ≤ (hs.length : Nat)) = false := by simp; omega
        have KS := Lib.hid fun (w1 : World) (hx : Ext w w1) => step_any g b d w1 (HF.out.ext_ hx).blk hd
        unfold ptrV at KS
        by_cases hst : (stepD d).2 = true
        · have hc : createD d nm = ({ (stepD d).1 with files := d.files ++ [⟨nm, [], 0⟩] }, 0) := by unfold createD; rw [if_neg h0, if_neg (by omega), if_neg h7, if_pos hst]
          rw [hc]
          rw [hst] at KS
          have kz := Lib.hid fun (w1 w2 : World) (hx : Ext w w1) (hb : Blk w2 g 109 (fscells b (stepD d).1)) (hg : w1.grownBy w2 (some g)) => map_store (nm := nm) ((((HF.out.ext_ hx).cells hb hg (stepD_files d)).ext_ (ExtA (o := .cells #[.slice none 0 0, .int .i64 0] 111) (Ext.rfl' w2))).own) HF.out.map (by rw [List.length_map]; omega) w2.heap.size (by simp only [maxLen]; omega)
          clear hc h0
          go_enter Tryz.func61, Tryz.ntmps61
          go_wp2_with (first
            | (go_at_call 110; (with_reducible refine (KO.out).mono ?_); rintro e w1 ⟨v, rfl, hx1, -⟩; have k0 : w1.cell? ⟨g, 0, none⟩ = some (.map (some b)) := k0.out w1 hx1; have hl := kl.out w1 hx1)
            | (go_at_call 111; (with_reducible refine (KS.out _ (by repeat (first | with_reducible exact Below.refl _ _ | with_reducible assumption | with_reducible refine ExtD ?_ | with_reducible refine ExtDN ?_ | with_reducible refine ExtA ?_ | (with_reducible refine ExtR ?_ ?_; (first | omega | (dsimp only; omega) | (simp; done) | (simp; omega))) | (with_reducible refine ExtS ?_ ?_; (first | omega | (dsimp only; omega) | (simp; done) | (simp; omega))) | with_reducible refine Ext.tr ?_ (by with_reducible assumption)))).mono ?_); rintro e w2 ⟨rfl, hb2, hg2⟩; have k2 : w2.cell? ⟨g, 0, none⟩ = some (.map (some b)) := hb2.cell 0; obtain ⟨w3, hrun, hown, hgr⟩ := kz.out w1 w2 (by repeat (first | with_reducible exact Below.refl _ _ | with_reducible assumption | with_reducible refine ExtD ?_ | with_reducible refine ExtDN ?_ | with_reducible refine ExtA ?_ | (with_reducible refine ExtR ?_ ?_; (first | omega | (dsimp only; omega) | (simp; done) | (simp; omega))) | (with_reducible refine ExtS ?_ ?_; (first | omega | (dsimp only; omega) | (simp; done) | (simp; omega))) | with_reducible refine Ext.tr ?_ (by with_reducible assumption))) hb2 hg2; unfold ptrV at hrun))
          go_ret
          refine ⟨rfl, FsTo.pre ?_ hx1⟩
          have hX := (HF.out.ext_ hx1).cells hb2 hg2 (stepD_files d)
          have hZ := fs_new hX (by rw [stepD_files]; exact hms.2) (by omega) hown hgr
          obtain ⟨D', hs', r1, r2, r3⟩ := hZ
          exact ⟨D', hs', by rw [stepD_files] at r1; exact r1, (grown_turn hg2 (fun r hr => by injection hr with hr; subst hr; exact .inl foot_g)).tr r2, fun r hr => (r3 r hr).imp id fun hk => Nat.le_trans hg2.size hk⟩
        · have hc : createD d nm = ((stepD d).1, 3) := by unfold createD; rw [if_neg h0, if_neg (by omega), if_neg h7, if_neg hst]
          rw [hc]
          rw [show (stepD d).2 = false by simpa using hst] at KS
          clear hc h0
          go_enter Tryz.func61, Tryz.ntmps61
          go_wp2_with (first
            | (go_at_call 110; (with_reducible refine (KO.out).mono ?_); rintro e w1 ⟨v, rfl, hx1, -⟩; have k0 : w1.cell? ⟨g, 0, none⟩ = some (.map (some b)) := k0.out w1 hx1; have hl := kl.out w1 hx1)
            | (go_at_call 111; (with_reducible refine (KS.out _ (by repeat (first | with_reducible exact Below.refl _ _ | with_reducible assumption | with_reducible refine ExtD ?_ | with_reducible refine ExtDN ?_ | with_reducible refine ExtA ?_ | (with_reducible refine ExtR ?_ ?_; (first | omega | (dsimp only; omega) | (simp; done) | (simp; omega))) | (with_reducible refine ExtS ?_ ?_; (first | omega | (dsimp only; omega) | (simp; done) | (simp; omega))) | with_reducible refine Ext.tr ?_ (by with_reducible assumption)))).mono ?_); rintro e w2 ⟨rfl, hb2, hg2⟩))
          go_ret
          exact ⟨rfl, ((HF.out.ext_ hx1).cells_to hb2 hg2 (stepD_files d)).pre hx1⟩
    · have hc : createD d nm = (d, openE d nm) := by unfold createD; rw [if_neg h0, if_pos h51]
      rw [hc]
      have t1 : ((openE d nm : Nat) : Int) ≠ 0 := by omega
      have e1 : (((openE d nm : Nat) : Int) == 0) = false := by simpa using t1
      have e2 : (((openE d nm : Nat) : Int) != 51) = true := by simp; omega
      clear hc
      generalize openE d nm = E at *
      go_enter Tryz.func61, Tryz.ntmps61
      go_wp2_with (go_at_call 110; (with_reducible refine (KO.out).mono ?_); rintro e w1 ⟨v, rfl, hx1, -⟩)
      go_ret
      exact ⟨rfl, HF.out.ext_to (by repeat (first | with_reducible exact Below.refl _ _ | with_reducible assumption | with_reducible refine ExtD ?_ | with_reducible refine ExtDN ?_ | with_reducible refine ExtA ?_ | (with_reducible refine ExtR ?_ ?_; (first | omega | (dsimp only; omega) | (simp; done) | (simp; omega))) | (with_reducible refine ExtS ?_ ?_; (first | omega | (dsimp only; omega) | (simp; done) | (simp; omega))) | with_reducible refine Ext.tr ?_ (by with_reducible assumption)))⟩
end Go.Proofs.YtjajbbgebblalaaGreatDoor

namespace Go.Proofs.YtjajbbgebblalaaGreatDoor
open Go.RowKit
set_option linter.unusedVariables false
set_option linter.unusedSimpArgs false
open Go.Maps
theorem FileAt.nodup {w : World} {base : Nat} {h : HF} (hf : FileAt w base h) : (footH h).Nodup := by
  unfold footH
  cases hA : h.2.2.1 with
  | none => simp
  | some a =>
    simp only [List.nodup_cons, List.mem_singleton, List.not_mem_nil, not_false_eq_true, List.nodup_nil, and_self, and_true]
    intro hc
    exact OwnC.ne hf.1 hf.2 (by decide) (by rw [hA, hc]; rfl)
theorem FileAt.lt {w : World} {base r : Nat} {h : HF} (hf : FileAt w base h) (hr : r ∈ footH h) : r < w.heap.size := by
  unfold footH at hr
  rcases List.mem_cons.1 hr with hr | hr
  · subst hr; exact hf.1.lt
  · cases hA : h.2.2.1 with
    | none => rw [hA] at hr; cases hr
    | some a =>
      rw [hA] at hr
      simp only [List.mem_singleton] at hr
      subst hr
      exact (hf.2.lt a.block (by rw [hA]; rfl)).2
theorem foot_perm (g b : Nat) (l1 l2 : List HF) (f : HF) : (foot g b (l1 ++ f :: l2)).Perm (footH f ++ (g :: b :: (l1 ++ l2).flatMap footH)) := by
  unfold foot
  rw [List.flatMap_append, List.flatMap_cons, List.flatMap_append]
  have h1 : (l1.flatMap footH ++ (footH f ++ l2.flatMap footH)).Perm (footH f ++ (l1.flatMap footH ++ l2.flatMap footH)) := by
    rw [← List.append_assoc, ← List.append_assoc]
    exact List.Perm.append_right _ List.perm_append_comm
  exact ((h1.cons b).cons g).trans ((List.perm_middle.symm.cons g).trans List.perm_middle.symm)
/-- One file's bytes, and the disk's own cells. -/
theorem fs_data {W w w' : World} {g b : Nat} {d d' : Dk} {D : DataW Value} {l1 l2 : List HF} {f f' : HF} (h : FsX W w g d b D (l1 ++ f :: l2)) (hn : f'.1.name = f.1.name) (hp : f'.2.1 = f.2.1) (ht : Turn (g :: footH f) w w')
    (hb : Blk w' g 109 (fscells b d')) (hf : FileAt w' W.heap.size f') (hfo : ∀ r ∈ footH f', r ∈ footH f ∨ w.heap.size ≤ r) (hd : d'.files = (l1 ++ f' :: l2).map (·.1)) : FsTo W w w' g b (l1 ++ f :: l2) d' := by
  have hfm : f ∈ l1 ++ f :: l2 := by simp
  have hP := foot_perm g b l1 l2 f
  have hP' := foot_perm g b l1 l2 f'
  have hN := (hP.nodup_iff).1 h.dis
  rw [List.nodup_append] at hN
  obtain ⟨n1, n2, n3⟩ := hN
  have hsub : ∀ r ∈ foot g b (l1 ++ f' :: l2), r ∈ foot g b (l1 ++ f :: l2) ∨ w.heap.size ≤ r ∧ r < w'.heap.size := fun r hr => by
    rcases List.mem_append.1 (hP'.mem_iff.1 hr) with hr | hr
    · rcases hfo r hr with h2 | h2
      · exact .inl (hP.mem_iff.2 (List.mem_append_left _ h2))
      · exact .inr ⟨h2, hf.lt hr⟩
    · exact .inl (hP.mem_iff.2 (List.mem_append_right _ hr))
  have hF : ∀ r ∈ g :: footH f, r ∈ foot g b (l1 ++ f :: l2) := fun r hr => by
    rcases List.mem_cons.1 hr with hr | hr
    · subst hr; exact foot_g
    · exact foot_h hfm hr
  refine ⟨D, l1 ++ f' :: l2, { ext := ht.ext h.ext (fun r hr => h.base r (hF r hr)), blk := hb, own := ?_, map := ?_, fil := fun k hk => ?_, dis := ?_, base := fun r hr => ?_, lt := fun r hr => ?_, hsd := hd.symm, cnt := by have := h.cnt; simpa using this }, ht.mono (fun r hr => .inl (hF r hr)), fun r hr => (hsub r hr).imp id (·.1)⟩
  · obtain ⟨n, hn', ho⟩ := h.own
    refine ⟨n, hn', ht.map ho ?_⟩
    intro hc
    rcases List.mem_cons.1 hc with hc | hc
    · exact foot_gb h.dis hc.symm
    · exact (foot_gh h.dis hfm hc).2 rfl
  · have := h.map
    simp only [List.map_append, List.map_cons, hn, hp] at this ⊢
    exact this
  · have hk' : k ∈ l1 ++ l2 ∨ k = f' := by
      rcases List.mem_append.1 hk with hk | hk
      · exact .inl (List.mem_append_left _ hk)
      · rcases List.mem_cons.1 hk with hk | hk
        · exact .inr hk
        · exact .inl (List.mem_append_right _ hk)
    rcases hk' with hk' | rfl
    · have hm : k ∈ l1 ++ f :: l2 := by
        rcases List.mem_append.1 hk' with hk' | hk'
        · exact List.mem_append_left _ hk'
        · exact List.mem_append_right _ (List.mem_cons_of_mem _ hk')
      refine (h.fil k hm).turn ht fun r hr hc => ?_
      rcases List.mem_cons.1 hc with hc | hc
      · exact (foot_gh h.dis hm hr).1 hc
      · exact n3 r hc r (List.mem_cons_of_mem _ (List.mem_cons_of_mem _ (List.mem_flatMap.2 ⟨k, hk', hr⟩))) rfl
    · exact hf
  · rw [hP'.nodup_iff, List.nodup_append]
    refine ⟨hf.nodup, n2, fun a ha c hc hac => ?_⟩
    subst hac
    rcases hfo a ha with h2 | h2
    · exact n3 a h2 a hc rfl
    · have := h.lt a (hP.mem_iff.2 (List.mem_append_right _ hc))
      omega
  · rcases hsub r hr with h2 | h2
    · exact h.base r h2
    · have := h.ext.size; omega
  · rcases hsub r hr with h2 | h2
    · have := h.lt r h2; have := ht.size; omega
    · exact h2.2
/-- What a disk keeps: the bytes are counted, and there is room for them. -/
def DkOk (d : Dk) : Prop := d.used = ((d.files.map (·.data.length)).sum : Nat) ∧ d.used ≤ d.room ∧ d.room ≤ 67108864
def dataD (d : Dk) (nm : ByteArray) (f : Fil → Fil) : List Fil := d.files.map fun x => if x.name = nm then f x else x
def appendD (d : Dk) (nm : ByteArray) (l : List UInt8) : Dk × Nat :=
  if openE d nm ≠ 0 then (d, openE d nm) else if d.room - d.used < (l.length : Nat) then (d, 54) else
  ({ (stepD d).1 with files := dataD d nm (fun f => { f with data := f.data ++ l }), used := d.used + (l.length : Nat) }, if (stepD d).2 = true then 0 else 3)
theorem names_apart {D : DataW Value} {l1 l2 : List HF} {f : HF} {nm : ByteArray} (h : MapL D ((l1 ++ f :: l2).map fun h => (h.1.name, h.2.1))) (hf : f.1.name = nm) : (∀ x ∈ l1, x.1.name ≠ nm) ∧ ∀ x ∈ l2, x.1.name ≠ nm := by
  have h3 := h.2.2.1
  simp only [List.map_append, List.map_cons, List.map_map] at h3
  rw [List.nodup_append] at h3
  obtain ⟨_, h4, h5⟩ := h3
  rw [List.nodup_cons] at h4
  subst hf
  exact ⟨fun x hx hc => h5 x.1.name (List.mem_map.2 ⟨x, hx, rfl⟩) f.1.name List.mem_cons_self hc, fun x hx hc => h4.1 (List.mem_map.2 ⟨x, hx, hc⟩)⟩
theorem dataD_eq {W w : World} {g b : Nat} {d : Dk} {D : DataW Value} {l1 l2 : List HF} {f : HF} {nm : ByteArray} (h : FsX W w g d b D (l1 ++ f :: l2)) (hf : f.1.name = nm) (k : Fil → Fil) (p : Nat × Option Addr × Nat) : dataD d nm k = (l1 ++ (k f.1, p) :: l2).map (·.1) := by
  obtain ⟨h1, h2⟩ := names_apart h.map hf
  unfold dataD
  rw [← h.hsd, List.map_map, List.map_append, List.map_append, List.map_cons, List.map_cons]
  congr 1
  · exact List.map_congr_left fun x hx => by simp [h1 x hx]
  · congr 1
    · simp [hf]
    · exact List.map_congr_left fun x hx => by simp [h2 x hx]
theorem le_sum_mem {l : List Nat} {x : Nat} (h : x ∈ l) : x ≤ l.sum := by
  induction l with
  | nil => cases h
  | cons a l ih =>
    rw [List.sum_cons]
    rcases List.mem_cons.1 h with h | h
    · omega
    · have := ih h; omega
theorem len_le_used {d : Dk} (h : DkOk d) {f : Fil} (hf : f ∈ d.files) : (f.data.length : Int) ≤ d.used := by
  have : f.data.length ≤ (d.files.map (·.data.length)).sum := le_sum_mem (List.mem_map.2 ⟨f, hf, rfl⟩)
  rw [h.1]; omega
theorem openE_hit {W w : World} {g b : Nat} {d : Dk} {D : DataW Value} {hs : List HF} {nm : ByteArray} (h : FsX W w g d b D hs) (h0 : openE d nm = 0) : ∃ f ∈ hs, f.1.name = nm := by
  unfold openE at h0
  split at h0
  · omega
  · split at h0
    · omega
    · split at h0
      · rename_i hin
        rw [← h.hsd, List.any_eq_true] at hin
        obtain ⟨f, hf, hn⟩ := hin
        obtain ⟨x, hx, rfl⟩ := List.mem_map.1 hf
        exact ⟨x, hx, by simpa using hn⟩
      · omega
theorem name_one {D : DataW Value} {l1 l2 : List HF} {f f2 : HF} (h : MapL D ((l1 ++ f :: l2).map fun h => (h.1.name, h.2.1))) (h2 : f2 ∈ l1 ++ f :: l2) (hn : f2.1.name = f.1.name) : f2 = f := by
  obtain ⟨a1, a2⟩ := names_apart h rfl
  rcases List.mem_append.1 h2 with h2 | h2
  · exact absurd hn (a1 _ h2)
  · rcases List.mem_cons.1 h2 with h2 | h2
    · exact h2
    · exact absurd hn (a2 _ h2)
theorem row_ne {w : World} {base p n s : Nat} {t e : TypeId} {cs : Array Value} {v : Value} {xs : List Value} (h1 : Blk w p t cs) (h2 : w.ownsRow base e s v n xs) (ht : t ≠ e) : some p ≠ v.ownBlock := fun hc => by
  rcases h2.2 with ⟨rfl, _⟩ | ⟨g2, cap, cur, rfl, _, hg2, _⟩
  · cases hc
  · simp only [Value.ownBlock, Option.some.injEq] at hc
    subst hc
    unfold Blk at h1
    rw [h1] at hg2
    simp at hg2
    exact ht hg2.2
theorem stepD_used (d : Dk) : (stepD d).1.used = d.used := by
  unfold stepD
  split
  · split <;> rfl
  · rfl
theorem fs_appended {W w w1 w2 w3 : World} {g b p n0 c0 m c' : Nat} {d : Dk} {D : DataW Value} {l1 l2 : List HF} {fn : ByteArray} {fd l : List UInt8} {fs : Nat} {A A' : Option Addr} {u : Int} (h : FsX W w g d b D (l1 ++ (⟨fn, fd, fs⟩, p, A, c0) :: l2)) (hx : Ext w w1) (hg2 : w1.grownBy w2 (some g))
    (hb2 : Blk w2 g 109 (fscells b (stepD d).1)) (hF : Blk w2 p 111 #[.slice A n0 c0, .int .i64 (fs : Nat)] ∧ OwnC w2 W.heap.size (.slice A n0 c0) n0 fd) (hg3 : w2.grownBy w3 (Value.slice A n0 c0).ownBlock)
    (hb3 : (Value.slice A' (n0 + m) c').ownBlock = (Value.slice A n0 c0).ownBlock ∨ (Value.slice A' (n0 + m) c').ownBlock = some w2.heap.size) (hown : OwnC w3 W.heap.size (.slice A' (n0 + m) c') (n0 + m) (fd ++ l)) (hn0 : n0 = fd.length) (hlm : l.length = m) (hu : u = d.used + (m : Nat)) :
    FsTo W w ((w3.setCell ⟨p, 0, none⟩ (.slice A' (n0 + m) c')).setCell ⟨g, 2, none⟩ (.int .i64 u)) g b (l1 ++ (⟨fn, fd, fs⟩, p, A, c0) :: l2) { (stepD d).1 with files := dataD d fn (fun f => { f with data := f.data ++ l }), used := d.used + (m : Nat) } := by
  subst hu
  have hfm : ((⟨fn, fd, fs⟩, p, A, c0) : HF) ∈ l1 ++ (⟨fn, fd, fs⟩, p, A, c0) :: l2 := by simp
  have hlen : (fd ++ l).length = n0 + m := by rw [List.length_append]; omega
  have hpf : p ∈ footH ((⟨fn, fd, fs⟩, p, A, c0) : HF) := by simp [footH]
  have hpg := (foot_gh h.dis hfm hpf).1
  have hAf : ∀ r, (Value.slice A n0 c0).ownBlock = some r → r ∈ footH ((⟨fn, fd, fs⟩, p, A, c0) : HF) := fun r hr => by
    cases A with
    | none => cases hr
    | some a => simp only [Value.ownBlock, Option.some.injEq] at hr; subst hr; simp [footH]
  have hz1 := hx.size
  have hz2 := hg2.size
  have hz3 := hg3.size
  have ht3 : Turn (g :: footH ((⟨fn, fd, fs⟩, p, A, c0) : HF)) w w3 := ((hx.turn _).tr (grown_turn hg2 (fun r hr => by injection hr with hr; subst hr; exact .inl (by simp)))).tr (grown_turn hg3 (fun r hr => .inl (List.mem_cons_of_mem _ (hAf r hr))))
  have c3 := BlkG hF.1 hg3 (OwnC.ne hF.1 hF.2 (by decide))
  have g3 := BlkG hb2 hg3 (OwnC.ne hb2 hF.2 (by decide))
  have a1 : ∀ r, (Value.slice A' (n0 + m) c').ownBlock = some r → r ≠ p := fun r hr hc => OwnC.ne c3 hown (by decide) (by rw [hr, hc])
  have a2 : ∀ r, (Value.slice A' (n0 + m) c').ownBlock = some r → r ≠ g := fun r hr hc => OwnC.ne g3 hown (by decide) (by rw [hr, hc])
  refine fs_data (f' := (⟨fn, fd ++ l, fs⟩, p, A', c')) h rfl rfl ((ht3.tr (Turn.cell (by simp [footH]))).tr (Turn.cell (by simp))) ?_ ⟨?_, ?_⟩ ?_ ?_
  · exact Blk_eq (BlkS (BlkF hpg.symm g3)) (by simp [fscells])
  · exact Blk_eq (BlkF hpg (BlkS c3)) (by simp [filcells, hlen])
  · dsimp only
    rw [hlen]
    exact Turn.ownC (F := [g]) (Turn.cell (by simp)) (Turn.ownC (F := [p]) (Turn.cell (by simp)) hown (fun r hr => by simpa using a1 r hr)) (fun r hr => by simpa using a2 r hr)
  · intro r hr
    rcases List.mem_cons.1 hr with hr | hr
    · exact .inl (by subst hr; exact hpf)
    · cases A' with
      | none => cases hr
      | some a =>
        simp only [List.mem_singleton] at hr
        rcases hb3 with hb3 | hb3
        · exact .inl (hAf r (by rw [← hb3, hr]; rfl))
        · simp only [Value.ownBlock, Option.some.injEq] at hb3
          exact .inr (by rw [hr, hb3]; omega)
  · exact dataD_eq h rfl _ _
set_option maxRecDepth 100000 in
set_option maxHeartbeats 4000000 in
theorem append_any (W w : World) (g b : Nat) (d : Dk) (D : DataW Value) (hs : List HF) (nm : ByteArray) (B : Option Addr) (m c : Nat) (l : List UInt8) (h : FsX W w g d b D hs) (hd : DkNum d) (hk : DkOk d) (hlm : l.length = m) (hm : m ≤ 140737488355328)
    (hr : ∀ w', Turn (foot g b hs) w w' → Rd w' B m (u8s l)) :
    Calls Tryz.prog 63 #[ptrV g, .string nm, .slice B m c] w fun e w' => e = .returned (.int .i64 ((appendD d nm l).2 : Nat)) ∧ FsTo W w w' g b hs (appendD d nm l).1 := by
  have HX := Lib.hid h
  have KO := Lib.hid (open_any W w g b d D hs nm h)
  unfold ptrV at KO ⊢
  clear h
  by_cases h0 : openE d nm = 0
  · rw [h0] at KO
    have k1 := Lib.hid fun (w1 : World) (hx : Ext w w1) => (HX.out.ext_ hx).blk.cell 1
    have k2 := Lib.hid fun (w1 : World) (hx : Ext w w1) => (HX.out.ext_ hx).blk.cell 2
    have hu0 : 0 ≤ d.used := by rw [hk.1]; omega
    have hrm := hk.2.2
    have hur := hk.2.1
    by_cases hfull : d.room - d.used < (m : Nat)
    · have hc : appendD d nm l = (d, 54) := by unfold appendD; rw [if_neg (by omega), if_pos (by rw [hlm]; exact hfull)]
      rw [hc]
      have t1 : decide (d.room - d.used < (m : Nat)) = true := by simpa using hfull
      clear hc hfull hr
      go_enter Tryz.func63, Tryz.ntmps63
      go_wp2_with (go_at_call 110; (with_reducible refine (KO.out).mono ?_); rintro e w1 ⟨v, rfl, hx1, -⟩; have k1 : w1.cell? ⟨g, 1, none⟩ = some (.int .i64 d.room) := k1.out w1 hx1; have k2 : w1.cell? ⟨g, 2, none⟩ = some (.int .i64 d.used) := k2.out w1 hx1)
      go_quiet (fail)
      go_wp2_with fail
      go_ret
      exact ⟨rfl, HX.out.ext_to (by repeat (first | with_reducible exact Below.refl _ _ | with_reducible assumption | with_reducible refine ExtD ?_ | with_reducible refine ExtDN ?_ | with_reducible refine ExtA ?_ | (with_reducible refine ExtR ?_ ?_; (first | omega | (dsimp only; omega) | (simp; done) | (simp; omega))) | (with_reducible refine ExtS ?_ ?_; (first | omega | (dsimp only; omega) | (simp; done) | (simp; omega))) | with_reducible refine Ext.tr ?_ (by with_reducible assumption)))⟩
    · obtain ⟨f, hfm, hfn⟩ := openE_hit HX.out h0
      obtain ⟨l1, l2, rfl⟩ := List.append_of_mem hfm
      obtain ⟨⟨fn, fd, fs⟩, p, A, c0⟩ := f
      have hfn : fn = nm := hfn
      subst hfn
      obtain ⟨up, hup⟩ : ∃ up, up = (stepD d).2 := ⟨_, rfl⟩
      have hc : appendD d fn l = ({ (stepD d).1 with files := dataD d fn (fun f => { f with data := f.data ++ l }), used := d.used + (m : Nat) }, if up = true then 0 else 3) := by unfold appendD; rw [if_neg (by omega), if_neg (by rw [hlm]; exact hfull), hlm, hup]
      rw [hc]
      have hfl : (fd.length : Int) ≤ d.used := len_le_used hk (f := ⟨fn, fd, fs⟩) (by rw [← HX.out.hsd]; exact List.mem_map.2 ⟨_, hfm, rfl⟩)
      have t1 : decide (d.room - d.used < (m : Nat)) = false := by simpa using hfull
      have KS := Lib.hid fun (w1 : World) (hx : Ext w w1) => step_any g b d w1 (HX.out.ext_ hx).blk hd
      unfold ptrV at KS
      rw [← hup] at KS
      have KU := Lib.hid fun (f2 : HF) (hf2 : f2 ∈ l1 ++ (⟨fn, fd, fs⟩, p, A, c0) :: l2) (hn : f2.1.name = fn) => name_one HX.out.map hf2 hn
      obtain ⟨n0, hn0⟩ : ∃ n0, n0 = fd.length := ⟨_, rfl⟩
      have Hn0 := Lib.hid hn0
      have FA := Lib.hid fun (w1 w2 : World) (hx : Ext w w1) (hg : w1.grownBy w2 (some g)) => (((HX.out.ext_ hx).fil _ hfm).turn (grown_turn hg (F := [g]) (fun r hr => by injection hr with hr; subst hr; exact .inl (by simp))) (fun r hr => by simpa using (foot_gh HX.out.dis hfm hr).1))
      have RD := Lib.hid fun (w1 w2 : World) (hx : Ext w w1) (hg : w1.grownBy w2 (some g)) => hr w2 ((hx.turn _).tr (grown_turn hg (fun r hr => by injection hr with hr; subst hr; exact .inl foot_g)))
      unfold FileAt filcells at FA
      dsimp only at FA
      rw [← hn0] at FA hfl
      have hXs := HX.out.ext.size
      have hml : (m : Int) ≤ d.room - d.used := by omega
      clear hc hfull hr hk hup hn0
      cases up
      all_goals
        go_enter Tryz.func63, Tryz.ntmps63
        go_wp2_with (go_at_call 110; (with_reducible refine (KO.out).mono ?_); rintro e w1 ⟨v, rfl, hx1, hv⟩; obtain ⟨f2, hf2, hn2, hv⟩ := hv rfl; have he := KU.out f2 hf2 hn2; rw [he] at hv; clear he hn2 hf2 f2; dsimp only at hv; subst hv; have k1 : w1.cell? ⟨g, 1, none⟩ = some (.int .i64 d.room) := k1.out w1 hx1; have k2 : w1.cell? ⟨g, 2, none⟩ = some (.int .i64 d.used) := k2.out w1 hx1)
        go_quiet (fail)
        go_wp2_with (first
          | (go_at_call 111; go_loud ((with_reducible refine (KS.out _ (by repeat (first | with_reducible exact Below.refl _ _ | with_reducible assumption | with_reducible refine ExtD ?_ | with_reducible refine ExtDN ?_ | with_reducible refine ExtA ?_ | (with_reducible refine ExtR ?_ ?_; (first | omega | (dsimp only; omega) | (simp; done) | (simp; omega))) | (with_reducible refine ExtS ?_ ?_; (first | omega | (dsimp only; omega) | (simp; done) | (simp; omega))) | with_reducible refine Ext.tr ?_ (by with_reducible assumption)))).mono ?_); rintro e w2 ⟨rfl, hb2, hg2⟩; have hx1d : Ext w (w1.drewN nq) := (by repeat (first | with_reducible exact Below.refl _ _ | with_reducible assumption | with_reducible refine ExtD ?_ | with_reducible refine ExtDN ?_ | with_reducible refine ExtA ?_ | (with_reducible refine ExtR ?_ ?_; (first | omega | (dsimp only; omega) | (simp; done) | (simp; omega))) | (with_reducible refine ExtS ?_ ?_; (first | omega | (dsimp only; omega) | (simp; done) | (simp; omega))) | with_reducible refine Ext.tr ?_ (by with_reducible assumption))); have hF := FA.out _ _ hx1d hg2; have q0 : w2.cell? ⟨p, 0, none⟩ = some (.slice A n0 c0) := hF.1.cell 0; have hR := RD.out _ _ hx1d hg2; have hW2 : W.heap.size ≤ w2.heap.size := (by have := hx1d.size; have := hg2.size; omega)))
          | (at_builtin; go_must (refine wpC_append rfl (.tmp 37) (.tmp 38) rfl W.heap.size (.slice A n0 c0) n0 _ rfl hF.2 B m c _ rfl hR (by omega) hW2 ?_); intro v' w3 hown' hg3 hb3; obtain ⟨A', c', rfl⟩ := hown'.slice_; have c3 := BlkG hF.1 hg3 (OwnC.ne hF.1 hF.2 (by decide)); have g3 := BlkG hb2 hg3 (OwnC.ne hb2 hF.2 (by decide)); have z0 : w3.cell? ⟨p, 0, none⟩ = some (.slice A n0 c0) := c3.cell 0; have zf := c3.frozen 0; have z2 : w3.cell? ⟨g, 2, none⟩ = some (.int .i64 d.used) := (g3.cell 2).trans (by rw [← stepD_used d]; rfl); have zg := g3.frozen 2))
        go_ret
        refine ⟨by first | rfl | simp, ?_⟩
        exact fs_appended HX.out hx1d hg2 hb2 hF hg3 hb3 hown' Hn0.out hlm (by go_num)
  · have hc : appendD d nm l = (d, openE d nm) := by unfold appendD; rw [if_pos h0]
    rw [hc]
    have t1 : ((openE d nm : Nat) : Int) ≠ 0 := by omega
    have e2 : (((openE d nm : Nat) : Int) != 0) = true := by simpa using t1
    clear hc
    generalize openE d nm = E at *
    go_enter Tryz.func63, Tryz.ntmps63
    go_wp2_with (go_at_call 110; (with_reducible refine (KO.out).mono ?_); rintro e w1 ⟨v, rfl, hx1, -⟩)
    go_ret
    exact ⟨rfl, HX.out.ext_to (by repeat (first | with_reducible exact Below.refl _ _ | with_reducible assumption | with_reducible refine ExtD ?_ | with_reducible refine ExtDN ?_ | with_reducible refine ExtA ?_ | (with_reducible refine ExtR ?_ ?_; (first | omega | (dsimp only; omega) | (simp; done) | (simp; omega))) | (with_reducible refine ExtS ?_ ?_; (first | omega | (dsimp only; omega) | (simp; done) | (simp; omega))) | with_reducible refine Ext.tr ?_ (by with_reducible assumption)))⟩
end Go.Proofs.YtjajbbgebblalaaGreatDoor

namespace Go.Proofs.YtjajbbgebblalaaGreatDoor
open Go.RowKit
set_option linter.unusedVariables false
set_option linter.unusedSimpArgs false
open Go.Maps
def syncD (d : Dk) (nm : ByteArray) : Dk × Nat :=
  if openE d nm ≠ 0 then (d, openE d nm) else if (stepD d).2 = true then ({ (stepD d).1 with files := dataD d nm (fun f => { f with safe := f.data.length }) }, 0) else ((stepD d).1, 3)
/-- What a call on a file finds: the file, and the walk's facts. -/
theorem fs_found {W w : World} {g b : Nat} {d : Dk} {D : DataW Value} {hs : List HF} {nm : ByteArray} (h : FsX W w g d b D hs) (h0 : openE d nm = 0) :
    ∃ l1 l2 fd fs p A c0, hs = l1 ++ (⟨nm, fd, fs⟩, p, A, c0) :: l2 := by
  obtain ⟨f, hfm, hfn⟩ := openE_hit h h0
  obtain ⟨l1, l2, rfl⟩ := List.append_of_mem hfm
  obtain ⟨⟨fn, fd, fs⟩, p, A, c0⟩ := f
  have hfn : fn = nm := hfn
  subst hfn
  exact ⟨l1, l2, fd, fs, p, A, c0, rfl⟩
theorem open_hit (W w : World) (g b : Nat) (d : Dk) (D : DataW Value) (l1 l2 : List HF) (nm : ByteArray) (fd : List UInt8) (fs p : Nat) (A : Option Addr) (c0 : Nat) (h : FsX W w g d b D (l1 ++ (⟨nm, fd, fs⟩, p, A, c0) :: l2)) (h0 : openE d nm = 0) :
    Calls Tryz.prog 110 #[.pointer (some ⟨g, 0, none⟩), .string nm] w fun e w' => e = .returned (.tuple #[.pointer (some ⟨p, 0, none⟩), .int .i64 0]) ∧ Ext w w' := by
  refine (open_any W w g b d D _ nm h).mono ?_
  rintro e w' ⟨v, rfl, hx, hv⟩
  obtain ⟨f2, hf2, hn2, hv⟩ := hv h0
  have he := name_one h.map hf2 hn2
  rw [he] at hv
  rw [hv, h0]
  exact ⟨rfl, hx⟩
theorem open_bad (W w : World) (g b : Nat) (d : Dk) (D : DataW Value) (hs : List HF) (nm : ByteArray) (E : Nat) (h : FsX W w g d b D hs) (h0 : openE d nm = E) :
    Calls Tryz.prog 110 #[.pointer (some ⟨g, 0, none⟩), .string nm] w fun e w' => ∃ v, e = .returned (.tuple #[v, .int .i64 (E : Nat)]) ∧ Ext w w' := by
  refine (open_any W w g b d D _ nm h).mono ?_
  rintro e w' ⟨v, rfl, hx, hv⟩
  rw [h0]
  exact ⟨v, rfl, hx⟩
theorem step_at (W w : World) (g b : Nat) (d : Dk) (D : DataW Value) (hs : List HF) (up : Bool) (hd : DkNum d) (hup : (stepD d).2 = up) (h : FsX W w g d b D hs) :
    Calls Tryz.prog 111 #[.pointer (some ⟨g, 0, none⟩)] w fun e w' => e = .returned (.bool up) ∧ FsX W w' g (stepD d).1 b D hs ∧ Turn [g] w w' := by
  refine (step_any g b d w h.blk hd).mono ?_
  rintro e w' ⟨rfl, hb, hg⟩
  rw [hup]
  exact ⟨rfl, h.cells hb hg (stepD_files d), grown_turn hg (fun r hr => by injection hr with hr; subst hr; exact .inl (by simp))⟩
theorem turn_g {g b : Nat} {hs : List HF} {w w' : World} (h : Turn [g] w w') : Turn (foot g b hs) w w' := h.mono fun r hr => by simp at hr; subst hr; exact .inl foot_g
/-- A disk that has only been stepped, as what a call leaves. -/
theorem FsX.to {W w w' : World} {g b : Nat} {d' : Dk} {D : DataW Value} {hs : List HF} (h : FsX W w' g d' b D hs) (ht : Turn (foot g b hs) w w') : FsTo W w w' g b hs d' := ⟨D, hs, h, ht, fun _ hr => .inl hr⟩
theorem FsTo.before {W w w' w2 : World} {g b : Nat} {d : Dk} {hs : List HF} (h : FsTo W w' w2 g b hs d) (ht : Turn (foot g b hs) w w') : FsTo W w w2 g b hs d := by
  obtain ⟨D, hs', h1, h2, h3⟩ := h
  exact ⟨D, hs', h1, ht.tr h2, fun r hr => (h3 r hr).imp id fun hk => Nat.le_trans ht.size hk⟩
theorem dataD_step (d : Dk) (nm : ByteArray) (k : Fil → Fil) : dataD (stepD d).1 nm k = dataD d nm k := by unfold dataD; rw [stepD_files]
set_option maxRecDepth 100000 in
set_option maxHeartbeats 4000000 in
theorem sync_any (W w : World) (g b : Nat) (d : Dk) (D : DataW Value) (hs : List HF) (nm : ByteArray) (h : FsX W w g d b D hs) (hd : DkNum d) :
    Calls Tryz.prog 65 #[ptrV g, .string nm] w fun e w' => e = .returned (.int .i64 ((syncD d nm).2 : Nat)) ∧ FsTo W w w' g b hs (syncD d nm).1 := by
  have HX := Lib.hid h
  unfold ptrV
  by_cases h0 : openE d nm = 0
  · obtain ⟨l1, l2, fd, fs, p, A, c0, rfl⟩ := fs_found h h0
    have KO := Lib.hid (open_hit W w g b d D l1 l2 nm fd fs p A c0 h h0)
    obtain ⟨up, hup⟩ : ∃ up, (stepD d).2 = up := ⟨_, rfl⟩
    have KS := Lib.hid fun (w1 : World) (hx : Ext w w1) => step_at W w1 g b d D _ up hd hup (HX.out.ext_ hx)
    have FA := Lib.hid fun (w1 : World) (d' : Dk) (hX : FsX W w1 g d' b D (l1 ++ (⟨nm, fd, fs⟩, p, A, c0) :: l2)) => (hX.fil (⟨nm, fd, fs⟩, p, A, c0) (by simp)).1
    unfold filcells at FA
    dsimp only at FA
    cases up
    · have hc : syncD d nm = ((stepD d).1, 3) := by unfold syncD; rw [if_neg (by omega), if_neg (by simp [hup])]
      rw [hc]
      clear hc h
      go_enter Tryz.func65, Tryz.ntmps65
      go_wp2_with (first
        | (go_at_call 110; (with_reducible refine (KO.out).mono ?_); rintro e w1 ⟨rfl, hx1⟩)
        | (go_at_call 111; (with_reducible refine (KS.out _ hx1).mono ?_); rintro e w2 ⟨rfl, hX2, ht2⟩))
      go_ret
      exact ⟨rfl, hX2.to ((hx1.turn _).tr (turn_g ht2))⟩
    · have hc : syncD d nm = ({ (stepD d).1 with files := dataD d nm (fun f => { f with safe := f.data.length }) }, 0) := by unfold syncD; rw [if_neg (by omega), if_pos hup]
      rw [hc]
      obtain ⟨n0, hn0⟩ : ∃ n0, n0 = fd.length := ⟨_, rfl⟩
      rw [← hn0] at FA
      have Hn := Lib.hid hn0
      clear hc h hn0
      go_enter Tryz.func65, Tryz.ntmps65
      go_wp2_with (first
        | (go_at_call 110; (with_reducible refine (KO.out).mono ?_); rintro e w1 ⟨rfl, hx1⟩)
        | (go_at_call 111; (with_reducible refine (KS.out _ hx1).mono ?_); rintro e w2 ⟨rfl, hX2, ht2⟩; have hF := FA.out _ _ hX2; have q0 : w2.cell? ⟨p, 0, none⟩ = some (.slice A n0 c0) := hF.cell 0; have q1 : w2.cell? ⟨p, 1, none⟩ = some (.int .i64 (fs : Nat)) := hF.cell 1; have qf := hF.frozen 1))
      go_ret
      refine ⟨rfl, FsTo.before ?_ ((hx1.turn _).tr (turn_g ht2))⟩
      refine fs_data (f' := (⟨nm, fd, fd.length⟩, p, A, c0)) hX2 rfl rfl (Turn.cell (by simp [footH])) (Blk_eq (BlkF ((foot_gh hX2.dis (h := (⟨nm, fd, fs⟩, p, A, c0)) (by simp) (r := p) (by simp [footH])).1.symm) hX2.blk) (by simp [fscells])) ⟨Blk_eq (BlkS hF) (by simp [filcells, Hn.out]), ?_⟩ (fun r hr => .inl hr) ?_
      · have h2 := (hX2.fil (⟨nm, fd, fs⟩, p, A, c0) (by simp)).2
        exact Turn.ownC (F := [p]) (Turn.cell (by simp)) h2 (fun r hr hc => OwnC.ne hF h2 (by decide) (by simp at hc; subst hc; exact hr.symm))
      · rw [← dataD_step]
        exact dataD_eq hX2 rfl _ _
  · have KO := Lib.hid (open_bad W w g b d D hs nm _ h rfl)
    have hc : syncD d nm = (d, openE d nm) := by unfold syncD; rw [if_pos h0]
    rw [hc]
    have e2 : (((openE d nm : Nat) : Int) != 0) = true := by simp; omega
    clear hc h
    generalize openE d nm = E at *
    go_enter Tryz.func65, Tryz.ntmps65
    go_wp2_with (go_at_call 110; (with_reducible refine (KO.out).mono ?_); rintro e w1 ⟨v, rfl, hx1⟩)
    go_ret
    exact ⟨rfl, HX.out.ext_to (by repeat (first | with_reducible exact Below.refl _ _ | with_reducible assumption | with_reducible refine ExtD ?_ | with_reducible refine ExtDN ?_ | with_reducible refine ExtA ?_ | (with_reducible refine ExtR ?_ ?_; (first | omega | (dsimp only; omega) | (simp; done) | (simp; omega))) | (with_reducible refine ExtS ?_ ?_; (first | omega | (dsimp only; omega) | (simp; done) | (simp; omega))) | with_reducible refine Ext.tr ?_ (by with_reducible assumption)))⟩
end Go.Proofs.YtjajbbgebblalaaGreatDoor

namespace Go.Proofs.YtjajbbgebblalaaGreatDoor
open Go.RowKit
set_option linter.unusedVariables false
set_option linter.unusedSimpArgs false
open Go.Maps
def getF (d : Dk) (nm : ByteArray) : Option Fil := d.files.find? fun f => decide (f.name = nm)
theorem getF_eq {W w : World} {g b : Nat} {d : Dk} {D : DataW Value} {l1 l2 : List HF} {f : HF} {nm : ByteArray} (h : FsX W w g d b D (l1 ++ f :: l2)) (hf : f.1.name = nm) : getF d nm = some f.1 := by
  obtain ⟨h1, h2⟩ := names_apart h.map hf
  unfold getF
  rw [← h.hsd, List.map_append, List.find?_append]
  have : (l1.map (·.1)).find? (fun f => decide (f.name = nm)) = none := by
    rw [List.find?_eq_none]
    intro x hx
    obtain ⟨y, hy, rfl⟩ := List.mem_map.1 hx
    simpa using h1 y hy
  rw [this, List.map_cons, List.find?_cons_of_pos (by simpa using hf)]
  rfl
def sizeD (d : Dk) (nm : ByteArray) : Nat × Nat := if openE d nm ≠ 0 then (0, openE d nm) else (((getF d nm).map (·.data.length)).getD 0, 0)
set_option maxRecDepth 100000 in
set_option maxHeartbeats 4000000 in
theorem size_any (W w : World) (g b : Nat) (d : Dk) (D : DataW Value) (hs : List HF) (nm : ByteArray) (h : FsX W w g d b D hs) :
    Calls Tryz.prog 69 #[ptrV g, .string nm] w fun e w' => e = .returned (.tuple #[.int .i64 ((sizeD d nm).1 : Nat), .int .i64 ((sizeD d nm).2 : Nat)]) ∧ Ext w w' := by
  have HX := Lib.hid h
  unfold ptrV
  by_cases h0 : openE d nm = 0
  · obtain ⟨l1, l2, fd, fs, p, A, c0, rfl⟩ := fs_found h h0
    have KO := Lib.hid (open_hit W w g b d D l1 l2 nm fd fs p A c0 h h0)
    have FA := Lib.hid fun (w1 : World) (hx : Ext w w1) => ((HX.out.ext_ hx).fil (⟨nm, fd, fs⟩, p, A, c0) (by simp)).1
    unfold filcells at FA
    dsimp only at FA
    have hc : sizeD d nm = (fd.length, 0) := by unfold sizeD; rw [if_neg (by omega), getF_eq h (f := (⟨nm, fd, fs⟩, p, A, c0)) rfl]; rfl
    rw [hc]
    obtain ⟨n0, hn0⟩ : ∃ n0, n0 = fd.length := ⟨_, rfl⟩
    rw [← hn0] at FA ⊢
    clear hc h hn0
    go_enter Tryz.func69, Tryz.ntmps69
    go_wp2_with (go_at_call 110; (with_reducible refine (KO.out).mono ?_); rintro e w1 ⟨rfl, hx1⟩; have q0 : w1.cell? ⟨p, 0, none⟩ = some (.slice A n0 c0) := (FA.out _ hx1).cell 0)
    go_ret2
    exact ⟨rfl, (by repeat (first | with_reducible exact Below.refl _ _ | with_reducible assumption | with_reducible refine ExtD ?_ | with_reducible refine ExtDN ?_ | with_reducible refine ExtA ?_ | (with_reducible refine ExtR ?_ ?_; (first | omega | (dsimp only; omega) | (simp; done) | (simp; omega))) | (with_reducible refine ExtS ?_ ?_; (first | omega | (dsimp only; omega) | (simp; done) | (simp; omega))) | with_reducible refine Ext.tr ?_ (by with_reducible assumption)))⟩
  · have KO := Lib.hid (open_bad W w g b d D hs nm _ h rfl)
    have hc : sizeD d nm = (0, openE d nm) := by unfold sizeD; rw [if_pos h0]
    rw [hc]
    have e2 : (((openE d nm : Nat) : Int) != 0) = true := by simp; omega
    clear hc h
    generalize openE d nm = E at *
    go_enter Tryz.func69, Tryz.ntmps69
    go_wp2_with (go_at_call 110; (with_reducible refine (KO.out).mono ?_); rintro e w1 ⟨v, rfl, hx1⟩)
    go_ret2
    exact ⟨rfl, (by repeat (first | with_reducible exact Below.refl _ _ | with_reducible assumption | with_reducible refine ExtD ?_ | with_reducible refine ExtDN ?_ | with_reducible refine ExtA ?_ | (with_reducible refine ExtR ?_ ?_; (first | omega | (dsimp only; omega) | (simp; done) | (simp; omega))) | (with_reducible refine ExtS ?_ ?_; (first | omega | (dsimp only; omega) | (simp; done) | (simp; omega))) | with_reducible refine Ext.tr ?_ (by with_reducible assumption)))⟩
set_option maxRecDepth 100000 in
set_option maxHeartbeats 4000000 in
theorem fuse_any (W w : World) (g b : Nat) (d : Dk) (D : DataW Value) (hs : List HF) (n : Int) (h : FsX W w g d b D hs) :
    Calls Tryz.prog 14 #[ptrV g, .int .i64 n] w fun e w' => e = .returned (.tuple #[]) ∧ FsTo W w w' g b hs { d with fuse := max 0 n } := by
  have HX := Lib.hid h
  unfold ptrV
  have k5 : w.cell? ⟨g, 5, none⟩ = some (.int .i64 d.fuse) := h.blk.cell 5
  have f5 := h.blk.frozen 5
  clear h
  by_cases hn : 0 < n
  · have hm : max 0 n = n := by omega
    rw [hm]
    have d1 : decide (0 < n) = true := by simpa using hn
    clear hm
    go_enter Tryz.func14, Tryz.ntmps14
    go_wp2_with fail
    first | go_end0 | (refine bodyPost_ret (results_none rfl _ _ _) rfl ?_)
    exact ⟨rfl, HX.out.cells_to (Blk_eq (BlkS HX.out.blk) (by simp [fscells])) (grown_setF (grown_rfl w g)) rfl⟩
  · have hm : max 0 n = 0 := by omega
    rw [hm]
    have d1 : decide (0 < n) = false := by simpa using hn
    clear hm
    go_enter Tryz.func14, Tryz.ntmps14
    go_wp2_with fail
    first | go_end0 | (refine bodyPost_ret (results_none rfl _ _ _) rfl ?_)
    exact ⟨rfl, HX.out.cells_to (Blk_eq (BlkS HX.out.blk) (by simp [fscells])) (grown_setF (grown_rfl w g)) rfl⟩
end Go.Proofs.YtjajbbgebblalaaGreatDoor

namespace Go.Proofs.YtjajbbgebblalaaGreatDoor
open Go.RowKit
set_option linter.unusedVariables false
set_option linter.unusedSimpArgs false
open Go.Maps
def IsI64 (x : Int) : Prop := -9223372036854775808 ≤ x ∧ x ≤ 9223372036854775807
def readD (d : Dk) (nm : ByteArray) (i n : Int) : Dk × List UInt8 × Nat :=
  if openE d nm ≠ 0 then (d, [], openE d nm) else
  let l := ((getF d nm).map (·.data)).getD []
  if i < 0 ∨ n < 0 ∨ (l.length : Int) < i ∨ (l.length : Int) - i < n then (d, [], 1) else ({ d with read := wrap64 (d.read + n) }, (l.drop i.toNat).take n.toNat, 0)
/-- New bytes as a call hands them out, behind what it did to the disk. -/
def GaveB (W w : World) (g b : Nat) (hs : List HF) (d' : Dk) (l : List UInt8) (E : Nat) (e : Ending) (w' : World) : Prop :=
  ∃ A c, e = .returned (.tuple #[.slice A l.length c, .int .i64 (E : Nat)]) ∧ FsTo W w w' g b hs d' ∧ w'.ownsRow w.heap.size 5 1 (.slice A l.length c) l.length (u8s l)
theorem OwnC.set_ {w : World} {base g n : Nat} {t : TypeId} {cs : Array Value} {v : Value} {l : List UInt8} (h1 : Blk w g t cs) (h2 : OwnC w base v n l) (ht : t ≠ 5) (i : Nat) (u : Value) : OwnC (w.setCell ⟨g, i, none⟩ u) base v n l :=
  Turn.ownC (F := [g]) (Turn.cell (by simp)) h2 (fun r hr hc => by
    simp at hc
    subst hc
    exact OwnC.ne h1 h2 ht hr.symm)
set_option maxRecDepth 100000 in
set_option maxHeartbeats 4000000 in
theorem read_any (W w : World) (g b : Nat) (d : Dk) (D : DataW Value) (hs : List HF) (nm : ByteArray) (i n : Int) (h : FsX W w g d b D hs) (hk : DkOk d) (hi : IsI64 i) (hn : IsI64 n) :
    Calls Tryz.prog 70 #[ptrV g, .string nm, .int .i64 i, .int .i64 n] w (GaveB W w g b hs (readD d nm i n).1 (readD d nm i n).2.1 (readD d nm i n).2.2) := by
  have HX := Lib.hid h
  unfold ptrV IsI64 at *
  by_cases h0 : openE d nm = 0
  · obtain ⟨l1, l2, fd, fs, p, A, c0, rfl⟩ := fs_found h h0
    have KO := Lib.hid (open_hit W w g b d D l1 l2 nm fd fs p A c0 h h0)
    have FA := Lib.hid fun (w1 : World) (hx : Ext w w1) => (HX.out.ext_ hx).fil (⟨nm, fd, fs⟩, p, A, c0) (by simp)
    have K4 := Lib.hid fun (w1 : World) (hx : Ext w w1) => (HX.out.ext_ hx).blk
    unfold FileAt filcells at FA
    dsimp only at FA
    have hlim : (fd.length : Int) ≤ 67108864 := by
      have := len_le_used hk (f := ⟨nm, fd, fs⟩) (by rw [← h.hsd]; exact List.mem_map.2 ⟨((⟨nm, fd, fs⟩, p, A, c0) : HF), by simp, rfl⟩)
      dsimp only at this
      have := hk.2.1; have := hk.2.2; omega
    have hg : getF d nm = some ⟨nm, fd, fs⟩ := getF_eq h (f := (⟨nm, fd, fs⟩, p, A, c0)) rfl
    by_cases hbad : i < 0 ∨ n < 0 ∨ (fd.length : Int) < i ∨ (fd.length : Int) - i < n
    · have hc : readD d nm i n = (d, [], 1) := by
        unfold readD
        rw [if_neg (by omega), hg]
        exact if_pos hbad
      rw [hc]
      obtain ⟨n0, hn0⟩ : ∃ n0, n0 = fd.length := ⟨_, rfl⟩
      rw [← hn0] at FA hlim hbad
      clear hc h hn0 hg hk
      unfold GaveB
      go_enter Tryz.func70, Tryz.ntmps70
      go_wp2_with (go_at_call 110; (with_reducible refine (KO.out).mono ?_); rintro e w1 ⟨rfl, hx1⟩; have q0 : w1.cell? ⟨p, 0, none⟩ = some (.slice A n0 c0) := (FA.out _ hx1).1.cell 0)
      all_goals first
        | (exfalso; omega)
        | (go_ret2; exact ⟨none, 0, rfl, HX.out.ext_to (by repeat (first | with_reducible exact Below.refl _ _ | with_reducible assumption | with_reducible refine ExtD ?_ | with_reducible refine ExtDN ?_ | with_reducible refine ExtA ?_ | (with_reducible refine ExtR ?_ ?_; (first | omega | (dsimp only; omega) | (simp; done) | (simp; omega))) | (with_reducible refine ExtS ?_ ?_; (first | omega | (dsimp only; omega) | (simp; done) | (simp; omega))) | with_reducible refine Ext.tr ?_ (by with_reducible assumption))), World.ownsRow_nil _ _ _ _⟩)
    · obtain ⟨j, rfl⟩ : ∃ j : Nat, i = (j : Nat) := ⟨i.toNat, by omega⟩
      obtain ⟨k, rfl⟩ : ∃ k : Nat, n = (k : Nat) := ⟨n.toNat, by omega⟩
      have hjk : j + k ≤ fd.length := by omega
      have hc : readD d nm (j : Nat) (k : Nat) = ({ d with read := wrap64 (d.read + (k : Nat)) }, (fd.drop j).take k, 0) := by
        unfold readD
        rw [if_neg (by omega), hg]
        exact (if_neg hbad).trans (by simp)
      rw [hc]
      have hcap : fd.length ≤ c0 ∧ c0 ≤ maxLen := by
        rcases (h.fil (⟨nm, fd, fs⟩, p, A, c0) (by simp)).2.2 with ⟨hv, h2⟩ | ⟨g2, cap, cur, hv, _, _, h2, h3, _⟩
        · injection hv with _ h3 h4; dsimp only at h2 h4; omega
        · injection hv with _ h5 h4; dsimp only at h2 h4; subst h4; exact ⟨h2, h3⟩
      obtain ⟨A2, hrun, hrd⟩ := slice_lh A fd.length c0 j (j + k) (by omega) hjk hcap.1
      have e1 : j + k - j = k := by omega
      rw [e1] at hrun hrd
      have hlk : ((fd.drop j).take k).length = k := by rw [List.length_take, List.length_drop]; omega
      have KC := Lib.hid fun (w2 : World) (hr : Rd w2 A2 k (u8s ((fd.drop j).take k))) => clone_any A2 k (c0 - j) ((fd.drop j).take k) w2 hr (by omega)
      unfold NewB at KC
      rw [hlk] at KC
      have Hrun := Lib.hid hrun
      have Hrd := Lib.hid hrd
      obtain ⟨n0, hn0⟩ : ∃ n0, n0 = fd.length := ⟨_, rfl⟩
      rw [← hn0] at FA hlim hbad hjk Hrun Hrd
      have Hn := Lib.hid hn0
      have hjn : (j : Int) + (k : Int) ≤ (n0 : Int) := by omega
      have d1 : decide (n0 < j) = false := by simp; omega
      have d2 : decide ((n0 : Int) - (j : Int) < (k : Int)) = false := by simp; omega
      have hrun : ∀ W : World, (Instr.slice 36 (.slice A n0 c0) (some (.int .i64 (j : Nat))) (some (.int .i64 ((j : Int) + (k : Int)))) none).run Tryz.prog W = .ok (.slice A2 k (c0 - j)) W := Hrun.out
      clear hc h hn0 hg hk hrd hbad hcap hjk e1 Hrun
      unfold GaveB
      rw [hlk]
      go_enter Tryz.func70, Tryz.ntmps70
      go_wp2_with (first
        | (go_at_call 110; (with_reducible refine (KO.out).mono ?_); rintro e w1 ⟨rfl, hx1⟩; have hF := FA.out _ hx1; have hB := K4.out _ hx1; have q0 : w1.cell? ⟨p, 0, none⟩ = some (.slice A n0 c0) := hF.1.cell 0; have q4 : w1.cell? ⟨g, 4, none⟩ = some (.int .i64 d.read) := hB.cell 4; have qf := hB.frozen 4)
        | (go_at_call 53; go_loud ((with_reducible refine (KC.out _ (Hrd.out _ _ (OwnC.set_ hB hF.2 (by decide) 4 _).rd)).mono ?_); rintro e w2 ⟨A3, c3, rfl, hx3, hown3⟩)))
      go_ret2
      have hX2 := (((HX.out.ext_ hx1).cells (d' := { d with read := wrap64 (d.read + (k : Nat)) }) (Blk_eq (BlkS hB) (by simp [fscells])) (grown_setF (grown_rfl w1 g)) rfl).ext_ hx3)
      refine ⟨A3, c3, rfl, hX2.to (((hx1.turn _).tr (Turn.cell foot_g)).tr (hx3.turn _)), own_base hown3 ?_⟩
      have := hx1.size
      simpa using this
  · have KO := Lib.hid (open_bad W w g b d D hs nm _ h rfl)
    have hc : readD d nm i n = (d, [], openE d nm) := by unfold readD; rw [if_pos h0]
    rw [hc]
    have e2 : (((openE d nm : Nat) : Int) != 0) = true := by simp; omega
    clear hc h
    unfold GaveB
    generalize openE d nm = E at *
    go_enter Tryz.func70, Tryz.ntmps70
    go_wp2_with (go_at_call 110; (with_reducible refine (KO.out).mono ?_); rintro e w1 ⟨v, rfl, hx1⟩)
    go_ret2
    exact ⟨none, 0, rfl, HX.out.ext_to (by repeat (first | with_reducible exact Below.refl _ _ | with_reducible assumption | with_reducible refine ExtD ?_ | with_reducible refine ExtDN ?_ | with_reducible refine ExtA ?_ | (with_reducible refine ExtR ?_ ?_; (first | omega | (dsimp only; omega) | (simp; done) | (simp; omega))) | (with_reducible refine ExtS ?_ ?_; (first | omega | (dsimp only; omega) | (simp; done) | (simp; omega))) | with_reducible refine Ext.tr ?_ (by with_reducible assumption))), World.ownsRow_nil _ _ _ _⟩
end Go.Proofs.YtjajbbgebblalaaGreatDoor
