/-
  Which names are right: both walks.
-/
/-
  A disk in memory: blocks that turn, maps of pointers, files.
-/
/-
  Bytes of the call's own whose slice may have been cut to its length (its block may be longer than its capacity).
-/
import Derived.Test.YtdoaniimfhpjhaaDoorBytesX
import Derived.Maps.OwnSet
namespace Go.Proofs.YtdoaniimfhpjhaaDoor
open Go.RowKit
set_option linter.unusedVariables false
set_option linter.unusedSimpArgs false
def okCh (x : Nat) : Bool := (decide (97 ≤ x) && decide (x ≤ 122)) || (decide (48 ≤ x) && decide (x ≤ 57)) || decide (x = 45) || decide (x = 46)
def chAt (s : ByteArray) (k : Nat) : Nat := (s.data.toList.getD k 0).toNat
def rightB (s : ByteArray) : Bool := decide (1 ≤ s.size) && decide (s.size ≤ 24) && (List.range s.size).all fun k => okCh (chAt s k)
theorem chAt_lt (s : ByteArray) (k : Nat) : chAt s k < 256 := UInt8.toNat_lt _
theorem str_at (s : ByteArray) (k : Nat) (h : k < s.size) (w : World) : (Instr.index 9 (.string s) (.int .i64 (k : Nat))).run Tryd.prog w = .ok (.int .u8 (chAt s k : Nat)) w := by
  rw [run_index_string w 9 s .i64 _ Tryd.underlying9, dif_pos ⟨by omega, by omega⟩]
  have e : ((k : Nat) : Int).toNat = k := by omega
  simp only [e]
  unfold chAt
  have h' : k < s.data.toList.length := by simpa using h
  rw [List.getD, List.getElem?_eq_getElem h']
  rfl
theorem right_no (s : ByteArray) (k : Nat) (h : k < s.size) (hc : okCh (chAt s k) = false) : rightB s = false := by
  unfold rightB
  have : (List.range s.size).all (fun k => okCh (chAt s k)) = false := by
    rw [List.all_eq_false]
    exact ⟨k, List.mem_range.2 h, by simp [hc]⟩
  rw [this, Bool.and_false]
theorem right_yes (s : ByteArray) (h0 : 1 ≤ s.size) (h1 : s.size ≤ 24) (hc : ∀ k, k < s.size → okCh (chAt s k) = true) : rightB s = true := by
  unfold rightB
  have : (List.range s.size).all (fun k => okCh (chAt s k)) = true := by
    rw [List.all_eq_true]
    exact fun k hk => hc k (List.mem_range.1 hk)
  rw [this]
  simp; omega
def RigR (n : Nat) (s : ByteArray) (w : World) (i : Value) (wr : World) : Prop := ∃ k : Nat, k ≤ n ∧ i = .int .i64 k ∧ w = wr ∧ ∀ j, j < k → okCh (chAt s j) = true
theorem rig_next {s : ByteArray} {w : World} {k x : Nat} (hall : ∀ j, j < k → okCh (chAt s j) = true) (hx : x = chAt s k) (hlt : k < s.size) (hc : okCh x = true) : RigR s.size s w (.int .i64 ((k : Nat) + 1 : Int)) w :=
  ⟨k + 1, hlt, by simp, rfl, fun j hj => by
    by_cases hjk : j = k
    · subst hjk; rw [← hx]; exact hc
    · exact hall j (by omega)⟩
set_option maxRecDepth 100000 in
set_option maxHeartbeats 2000000 in
theorem right_any (s : ByteArray) (w : World) : Calls Tryd.prog 38 #[.string s] w fun e w' => e = .returned (.bool (rightB s)) ∧ Ext w w' := by
  by_cases h0 : s.size = 0
  · have hb : rightB s = false := by unfold rightB; simp [h0]
    rw [hb]
    have hs : s = ⟨#[]⟩ := by
      cases s with | mk d => congr 1; exact Array.eq_empty_of_size_eq_zero h0
    subst hs
    clear hb h0
    go_enter Tryd.func38, Tryd.ntmps38
    go_wp2_with fail
    go_ret
    exact ⟨rfl, (by repeat (first | with_reducible exact Below.refl _ _ | with_reducible assumption | with_reducible refine ExtD ?_ | with_reducible refine ExtDN ?_ | with_reducible refine ExtA ?_ | (with_reducible refine ExtR ?_ ?_; (first | omega | (dsimp only; omega) | (simp; done) | (simp; omega))) | (with_reducible refine ExtS ?_ ?_; (first | omega | (dsimp only; omega) | (simp; done) | (simp; omega))) | with_reducible refine Ext.tr ?_ (by with_reducible assumption)))⟩
  · have hne : s.toList.isEmpty = false := by
      rw [ByteArray.toList_eq]
      cases hl : s.data.toList with
      | nil => exact absurd (by have := congrArg List.length hl; simpa using this) h0
      | cons _ _ => rfl
    by_cases h1 : 24 < s.size
    · have hb : rightB s = false := by unfold rightB; simp; omega
      rw [hb]
      have d1 : decide ((24 : Int) < (s.size : Int)) = true := by simp; omega
      clear hb h0
      go_enter Tryd.func38, Tryd.ntmps38
      go_wp2_with fail
      go_ret
      exact ⟨rfl, (by repeat (first | with_reducible exact Below.refl _ _ | with_reducible assumption | with_reducible refine ExtD ?_ | with_reducible refine ExtDN ?_ | with_reducible refine ExtA ?_ | (with_reducible refine ExtR ?_ ?_; (first | omega | (dsimp only; omega) | (simp; done) | (simp; omega))) | (with_reducible refine ExtS ?_ ?_; (first | omega | (dsimp only; omega) | (simp; done) | (simp; omega))) | with_reducible refine Ext.tr ?_ (by with_reducible assumption)))⟩
    · have d1 : decide ((24 : Int) < (s.size : Int)) = false := by simp; omega
      have Hix := Lib.hid (str_at s)
      have H0 := Lib.hid h0
      have H1 := Lib.hid h1
      clear h0 h1
      go_enter Tryd.func38, Tryd.ntmps38
      go_wp2_with fail
      go_loopw [14] (fun c14 wr => RigR s.size s w c14 wr) (fun c14 _ => s.size - (intOf c14).toNat)
      case atStart => exact ⟨0, by omega, rfl, rfl, fun j h => by omega⟩
      case round =>
        obtain ⟨k, hk, rfl, rfl, hall⟩ := hrel
        have Hall := Lib.hid hall
        clear hall
        have h24 := H1.out
        by_cases hlt : k < s.size
        · have hix := Hix.out k hlt w
          obtain ⟨x, hx⟩ : ∃ x, x = chAt s k := ⟨_, rfl⟩
          rw [← hx] at hix
          have HX := Lib.hid hx
          have hx8 : x < 256 := by rw [hx]; exact chAt_lt s k
          clear hx
          go_wp2_with fail
          all_goals try simp only [bne_eq_false_iff_eq, bne_iff_ne, ne_eq, beq_iff_eq, beq_eq_false_iff_ne, Bool.not_eq_eq_eq_not, Bool.not_true, Bool.not_false, decide_eq_false_iff_not, decide_eq_true_eq] at *
          all_goals first
            | exact And.intro (rig_next Hall.out HX.out hlt (by simp [okCh] <;> omega)) (by simp [intOf]; omega)
            | (go_ret; exact ⟨by rw [right_no s k hlt (by rw [← HX.out]; simp [okCh] <;> omega)]; rfl, (by repeat (first | with_reducible exact Below.refl _ _ | with_reducible assumption | with_reducible refine ExtD ?_ | with_reducible refine ExtDN ?_ | with_reducible refine ExtA ?_ | (with_reducible refine ExtR ?_ ?_; (first | omega | (dsimp only; omega) | (simp; done) | (simp; omega))) | (with_reducible refine ExtS ?_ ?_; (first | omega | (dsimp only; omega) | (simp; done) | (simp; omega))) | with_reducible refine Ext.tr ?_ (by with_reducible assumption)))⟩)
        · have hb : rightB s = true := right_yes s (by have := H0.out; omega) (by omega) (fun j hj => Hall.out j (by omega))
          go_wp2_with fail
          go_ret
          exact ⟨by rw [hb]; rfl, (by repeat (first | with_reducible exact Below.refl _ _ | with_reducible assumption | with_reducible refine ExtD ?_ | with_reducible refine ExtDN ?_ | with_reducible refine ExtA ?_ | (with_reducible refine ExtR ?_ ?_; (first | omega | (dsimp only; omega) | (simp; done) | (simp; omega))) | (with_reducible refine ExtS ?_ ?_; (first | omega | (dsimp only; omega) | (simp; done) | (simp; omega))) | with_reducible refine Ext.tr ?_ (by with_reducible assumption)))⟩
end Go.Proofs.YtdoaniimfhpjhaaDoor

namespace Go.Proofs.YtdoaniimfhpjhaaDoor
open Go.RowKit
set_option linter.unusedVariables false
set_option linter.unusedSimpArgs false
open Go.Maps
/-- Every block of w but those of F stands in w'. -/
structure Turn (F : List Nat) (w w' : World) : Prop where
  os : w'.os = w.os
  tape : w'.tape = w.tape
  output : w'.output = w.output
  size : w.heap.size ≤ w'.heap.size
  block : ∀ k, k < w.heap.size → k ∉ F → w'.heap[k]? = w.heap[k]?
theorem Turn.refl (F : List Nat) (w : World) : Turn F w w := ⟨rfl, rfl, rfl, Nat.le_refl _, fun _ _ _ => rfl⟩
theorem Turn.trans {F F' : List Nat} {a b c : World} (h : Turn F a b) (h2 : Turn F' b c) (hf : ∀ r ∈ F', r ∈ F ∨ a.heap.size ≤ r) : Turn F a c :=
  ⟨h2.os.trans h.os, h2.tape.trans h.tape, h2.output.trans h.output, Nat.le_trans h.size h2.size, fun k hk hn => (h2.block k (Nat.lt_of_lt_of_le hk h.size) (fun hc => by
    rcases hf k hc with h3 | h3
    · exact hn h3
    · omega)).trans (h.block k hk hn)⟩
theorem Turn.tr {F : List Nat} {a b c : World} (h : Turn F a b) (h2 : Turn F b c) : Turn F a c := h.trans h2 fun _ hr => .inl hr
theorem Turn.mono {F F' : List Nat} {a b : World} (h : Turn F a b) (hf : ∀ r ∈ F, r ∈ F' ∨ a.heap.size ≤ r) : Turn F' a b :=
  ⟨h.os, h.tape, h.output, h.size, fun k hk hn => h.block k hk (fun hc => by
    rcases hf k hc with h3 | h3
    · exact hn h3
    · omega)⟩
theorem Ext.turn {a b : World} (h : Ext a b) (F : List Nat) : Turn F a b := ⟨h.os, h.tape, h.output, h.size, fun k hk _ => h.block k hk⟩
theorem Turn.ext {W a b : World} {F : List Nat} (hx : Ext W a) (h : Turn F a b) (hf : ∀ r ∈ F, W.heap.size ≤ r) : Ext W b :=
  ⟨h.os.trans hx.os, h.tape.trans hx.tape, h.output.trans hx.output, Nat.le_trans hx.size h.size, fun k hk => (h.block k (Nat.lt_of_lt_of_le hk hx.size) (fun hc => by have := hf k hc; omega)).trans (hx.block k hk)⟩
theorem Turn.ext0 {a b : World} (h : Turn [] a b) : Ext a b := h.ext (Ext.rfl' a) (fun _ hr => by cases hr)
theorem grown_turn {a b : World} {row : Option Nat} (h : a.grownBy b row) {F : List Nat} (hf : ∀ r, row = some r → r ∈ F ∨ a.heap.size ≤ r) : Turn F a b :=
  ⟨h.os, h.tape, h.output, h.size, fun k hk hn => h.block k hk (fun hc => by
    rcases hf k hc.symm with h3 | h3
    · exact hn h3
    · omega)⟩
theorem Turn.cell {F : List Nat} {a : World} {p : Addr} {v : Value} (hp : p.block ∈ F) : Turn F a (a.setCell p v) :=
  ⟨rfl, rfl, rfl, by simp, fun k _ hn => Below.heap_setCell a p v k (fun hc => hn (by rw [hc]; exact hp))⟩
theorem Turn.blk {F : List Nat} {a b : World} {g : Nat} {t : TypeId} {cs : Array Value} (h : Turn F a b) (hb : Blk a g t cs) (hn : g ∉ F) : Blk b g t cs := (h.block g hb.lt hn).trans hb
theorem Turn.own {F : List Nat} {a b : World} {base s n : Nat} {e : TypeId} {v : Value} {xs : List Value} (h : Turn F a b) (ho : a.ownsRow base e s v n xs) (hn : ∀ r, v.ownBlock = some r → r ∉ F) : b.ownsRow base e s v n xs :=
  own_heap ho fun g hg => h.block g (ho.lt g hg).2 (hn g hg)
theorem Turn.map {F : List Nat} {a b : World} {P : Program} {H : Type} {k : TypeId} {R : Value → Option (DataW H × List MemPlace)} {m n : Nat} {D : DataW H} (h : Turn F a b) (ho : a.ownsMap P k R m n D) (hn : m ∉ F) : b.ownsMap P k R m n D := by
  have hlt := ho.lt
  obtain ⟨es, clock, hb, F', hs, hD⟩ := ho
  exact ⟨es, clock, (h.block m hlt hn).trans hb, F', hs, hD⟩
/-- How an element reads: as itself. -/
def tokR (v : Value) : Option (DataW Value × List MemPlace) := some (.held v, [])
def OwnM (w : World) (b : Nat) (D : DataW Value) : Prop := ∃ n, n ≤ 4096 ∧ w.ownsMap Tryd.prog 9 tokR b n D
def nmLit (s : ByteArray) : Lit := .string s.data.toList
theorem key_str (s : ByteArray) (hs : s.size ≤ maxLen) : keyOf Tryd.prog 9 (.string s) = some (nmLit s) := Go.WideMaps.keyOf_string_mk Tryd.underlying9 hs
theorem key_law : Keyed Tryd.prog 9 := string_keyed Tryd.underlying9
theorem nmLit_inj {a b : ByteArray} (h : nmLit a = nmLit b) : a = b := by
  unfold nmLit at h
  injection h with h
  cases a; cases b; congr 1; exact Array.toList_inj.1 h
def ptrV (p : Nat) : Value := .pointer (some ⟨p, 0, none⟩)
/-- The map holds just the names of l, each with its pointer. -/
def MapL (D : DataW Value) (l : List (ByteArray × Nat)) : Prop :=
  Tidy D ∧ Maps.size D = l.length ∧ (l.map (·.1)).Nodup ∧ (∀ nm, Maps.has D (nmLit nm) = l.any fun p => decide (p.1 = nm)) ∧ ∀ nm p, (nm, p) ∈ l → ∀ z, D.atKey (nmLit nm) z = .held (ptrV p)
theorem map_nil : MapL (.map []) [] := ⟨tidy_empty, rfl, List.nodup_nil, fun _ => rfl, fun _ _ h => by cases h⟩
theorem isKey (s : ByteArray) : WideAt.IsKeyLit (nmLit s) := by unfold nmLit; trivial
theorem map_put {D : DataW Value} {l : List (ByteArray × Nat)} (h : MapL D l) (nm : ByteArray) (p : Nat) (hn : ∀ x ∈ l, x.1 ≠ nm) : MapL (D.put (nmLit nm) (.held (ptrV p))) (l ++ [(nm, p)]) := by
  obtain ⟨h1, h2, h3, h4, h5⟩ := h
  have hno : Maps.has D (nmLit nm) = false := by
    rw [h4, List.any_eq_false]
    intro x hx
    simpa using hn x hx
  refine ⟨h1.put (isKey nm) _, ?_, ?_, fun k => ?_, fun k q hq z => ?_⟩
  · rw [size_put h1, hno]; simp [h2]
  · rw [List.map_append, List.nodup_append]
    refine ⟨h3, by simp, fun a ha b hb => ?_⟩
    simp only [List.map_cons, List.map_nil, List.mem_singleton] at hb
    subst hb
    obtain ⟨x, hx, rfl⟩ := List.mem_map.1 ha
    exact hn x hx
  · by_cases hk : k = nm
    · subst hk; rw [has_put_same h1.isMap (isKey _)]; simp
    · rw [has_put_other (fun hc => hk (nmLit_inj hc)), h4]
      have : ¬ nm = k := fun hc => hk hc.symm
      simp [this]
  · rcases List.mem_append.1 hq with hq | hq
    · rw [atKey_put_other (fun hc => hn _ hq (nmLit_inj hc))]; exact h5 k q hq z
    · simp only [List.mem_singleton, Prod.mk.injEq] at hq
      obtain ⟨rfl, rfl⟩ := hq
      exact atKey_put_same h1.isMap (isKey _) _ _
theorem zero_ptr (w : World) : (zeroValue 59).run Tryd.prog w = .ok (.pointer none) w := by kernel_rfl
theorem look_hit {w : World} {b : Nat} {D : DataW Value} {l : List (ByteArray × Nat)} (ho : OwnM w b D) (hm : MapL D l) {nm : ByteArray} {p : Nat} (hl : (nm, p) ∈ l) (hs : nm.size ≤ maxLen) :
    (Instr.lookup 46 (.map (some b)) (.string nm) false).run Tryd.prog w = .ok (ptrV p) w := by
  obtain ⟨n, _, ho⟩ := ho
  obtain ⟨v, ps, hr, hv⟩ := ho.lookup key_law Tryd.underlying46 (zero_ptr w) (zd := .held (.pointer none)) rfl (key_str nm hs)
  rw [hm.2.2.2.2 nm p hl] at hv
  simp only [tokR, Option.some.injEq, Prod.mk.injEq, DataW.held.injEq] at hv
  rw [hr, hv.1]
theorem look_miss {w : World} {b : Nat} {D : DataW Value} {l : List (ByteArray × Nat)} (ho : OwnM w b D) (hm : MapL D l) {nm : ByteArray} (hl : ∀ x ∈ l, x.1 ≠ nm) (hs : nm.size ≤ maxLen) :
    (Instr.lookup 46 (.map (some b)) (.string nm) false).run Tryd.prog w = .ok (.pointer none) w := by
  obtain ⟨n, _, ho⟩ := ho
  obtain ⟨v, ps, hr, hv⟩ := ho.lookup key_law Tryd.underlying46 (zero_ptr w) (zd := .held (.pointer none)) rfl (key_str nm hs)
  have hno : Maps.has D (nmLit nm) = false := by
    rw [hm.2.2.2.1, List.any_eq_false]
    intro x hx
    simpa using hl x hx
  rw [atKey_of_not_has hno] at hv
  simp only [tokR, Option.some.injEq, Prod.mk.injEq, DataW.held.injEq] at hv
  rw [hr, hv.1]
theorem map_len {w : World} {b : Nat} {D : DataW Value} {l : List (ByteArray × Nat)} (ho : OwnM w b D) (hm : MapL D l) (ty : TypeId) : (Builtin.len_ #[46] ty #[.map (some b)]).run Tryd.prog w = .ok (.int .i64 (l.length : Nat)) w := by
  obtain ⟨n, _, ho⟩ := ho
  rw [ho.len Tryd.underlying46 ty, hm.2.1]
theorem map_store {w : World} {b : Nat} {D : DataW Value} {l : List (ByteArray × Nat)} (ho : OwnM w b D) (hm : MapL D l) (hl : l.length ≤ 4000) {nm : ByteArray} (p : Nat) (hs : nm.size ≤ maxLen) :
    ∃ w', (Instr.mapUpdate 46 (.map (some b)) (.string nm) (ptrV p)).run Tryd.prog w = .ok () w' ∧ OwnM w' b (D.put (nmLit nm) (.held (ptrV p))) ∧ w.grownBy w' (some b) := by
  obtain ⟨n, _, es, clock, hb, F, _, hD⟩ := ho
  have hsz : es.size ≤ 4000 := by
    have := hm.2.1
    rw [hD] at this
    simp [Maps.size, length_sorted] at this
    omega
  have ho : w.ownsMap Tryd.prog 9 tokR b 4000 D := ⟨es, clock, hb, F, hsz, hD⟩
  obtain ⟨w', h1, h2, h3⟩ := ho.update key_law Tryd.underlying46 (by simp only [maxLen]; omega) (key_str nm hs) (val := ptrV p) (d := .held (ptrV p)) (ps := []) rfl
  exact ⟨w', h1, ⟨4001, by omega, h2⟩, h3⟩
end Go.Proofs.YtdoaniimfhpjhaaDoor

namespace Go.Proofs.YtdoaniimfhpjhaaDoor
open Go.RowKit
set_option linter.unusedVariables false
set_option linter.unusedSimpArgs false
def OwnC (w : World) (base : Nat) (v : Value) (n : Nat) (l : List UInt8) : Prop :=
  l.length = n ∧ ((v = .slice none 0 0 ∧ n = 0) ∨
   ∃ g cap cur, v = .slice (some ⟨g, 0, none⟩) n cap ∧ base ≤ g ∧ Blk w g 5 cur ∧ n ≤ cap ∧ cap ≤ maxLen ∧ cap ≤ cur.size ∧ cur.toList.take n = u8s l)
theorem OwnC.of_own {w : World} {base n : Nat} {v : Value} {l : List UInt8} (h : w.ownsRow base 5 1 v n (u8s l)) : OwnC w base v n l := by
  refine ⟨by have := h.1; rw [u8s_len] at this; omega, ?_⟩
  rcases h.2 with h2 | ⟨g, cap, cur, h1, h2, h3, h4, h5, h6, h7⟩
  · exact .inl h2
  · exact .inr ⟨g, cap, cur, h1, h2, h3, h4, h5, by omega, by simpa using h7⟩
theorem OwnC.nil_ (w : World) (base : Nat) : OwnC w base (.slice none 0 0) 0 [] := ⟨rfl, .inl ⟨rfl, rfl⟩⟩
theorem OwnC.lt {w : World} {base n : Nat} {v : Value} {l : List UInt8} (h : OwnC w base v n l) : ∀ k, v.ownBlock = some k → base ≤ k ∧ k < w.heap.size := by
  intro k hk
  rcases h.2 with ⟨rfl, _⟩ | ⟨g, cap, cur, rfl, h2, h3, _⟩
  · cases hk
  · simp only [Value.ownBlock, Option.some.injEq] at hk
    subst hk
    exact ⟨h2, h3.lt⟩
theorem OwnC.heap_ {w w' : World} {base n : Nat} {v : Value} {l : List UInt8} (h : OwnC w base v n l) (hk : ∀ g, v.ownBlock = some g → w'.heap[g]? = w.heap[g]?) : OwnC w' base v n l := by
  refine ⟨h.1, ?_⟩
  rcases h.2 with h2 | ⟨g, cap, cur, rfl, h2, h3, h4⟩
  · exact .inl h2
  · exact .inr ⟨g, cap, cur, rfl, h2, (hk g rfl).trans h3, h4⟩
theorem Turn.ownC {F : List Nat} {a b : World} {base n : Nat} {v : Value} {l : List UInt8} (h : Turn F a b) (ho : OwnC a base v n l) (hn : ∀ r, v.ownBlock = some r → r ∉ F) : OwnC b base v n l :=
  ho.heap_ fun g hg => h.block g (ho.lt g hg).2 (hn g hg)
theorem OwnC.slice_ {w : World} {base n : Nat} {v : Value} {l : List UInt8} (h : OwnC w base v n l) : ∃ A c, v = .slice A n c := by
  rcases h.2 with ⟨rfl, rfl⟩ | ⟨g, cap, cur, rfl, _⟩
  · exact ⟨none, 0, rfl⟩
  · exact ⟨_, _, rfl⟩
theorem OwnC.rd {w : World} {base n c : Nat} {A : Option Addr} {l : List UInt8} (h : OwnC w base (.slice A n c) n l) : Rd w A n (u8s l) := by
  refine ⟨by rw [u8s_len]; exact h.1, fun h0 => ?_⟩
  rcases h.2 with ⟨_, h2⟩ | ⟨g, cap, cur, h1, h2, h3, h4, h5, h6, h7⟩
  · omega
  · injection h1 with h1 _ _
    subst h1
    refine ⟨g, 0, rfl, fun j u hu => ?_⟩
    rw [← h7] at hu
    rw [List.getElem?_take] at hu
    split at hu
    · rw [Nat.zero_add, h3.cell j, ← hu]; simp
    · cases hu
theorem OwnC.cut {w : World} {base n c k : Nat} {A : Option Addr} {l : List UInt8} (h : OwnC w base (.slice A n c) n l) (hk : k ≤ n) : OwnC w base (.slice A k k) k (l.take k) := by
  refine ⟨by rw [List.length_take, h.1]; omega, ?_⟩
  rcases h.2 with ⟨h1, h2⟩ | ⟨g, cap, cur, h1, h2, h3, h4, h5, h6, h7⟩
  · injection h1 with h1 _ _
    subst h1
    have : k = 0 := by omega
    subst this
    exact .inl ⟨rfl, rfl⟩
  · injection h1 with h1 _ _
    subst h1
    refine .inr ⟨g, k, cur, rfl, h2, h3, Nat.le_refl _, by omega, by omega, ?_⟩
    rw [u8s_take, ← h7, List.take_take, Nat.min_eq_left hk]
theorem OwnC.ne {w : World} {base p n : Nat} {t : TypeId} {cs : Array Value} {v : Value} {l : List UInt8} (h1 : Blk w p t cs) (h2 : OwnC w base v n l) (ht : t ≠ 5) : some p ≠ v.ownBlock := fun hc => by
  rcases h2.2 with ⟨rfl, _⟩ | ⟨g2, cap, cur, rfl, _, hg2, _⟩
  · cases hc
  · simp only [Value.ownBlock, Option.some.injEq] at hc
    subst hc
    unfold Blk at h1 hg2
    rw [h1] at hg2
    simp at hg2
    exact ht hg2.2
section
variable {w : World}
/-- append onto such bytes, from any bytes that read. -/
theorem run_appendC (base : Nat) (ty : TypeId) (v : Value) (n : Nat) (l : List UInt8) (hown : OwnC w base v n l) (A : Option Addr) (m c : Nat) (news : List UInt8) (hr : Rd w A m (u8s news)) (hb : n + m ≤ 140737488355328) (hbase : base ≤ w.heap.size) :
    ∃ v' w', (Builtin.append_ #[40, 40] ty #[v, .slice A m c]).run Tryd.prog w = .ok v' w' ∧ OwnC w' base v' (n + m) (l ++ news) ∧ w.grownBy w' v.ownBlock ∧ (v'.ownBlock = v.ownBlock ∨ v'.ownBlock = some w.heap.size) := by
  have hm : news.length = m := by have := hr.1; rw [u8s_len] at this; exact this
  by_cases hfull : ∃ g cap cur, v = .slice (some ⟨g, 0, none⟩) n cap ∧ base ≤ g ∧ Blk w g 5 cur ∧ n ≤ cap ∧ cap ≤ maxLen ∧ cap ≤ cur.size ∧ cur.toList.take n = u8s l ∧ cap ≠ cur.size
  · obtain ⟨g, cap, cur, rfl, h2, h3, h4, h5, h6, h7, _⟩ := hfull
    obtain ⟨i, hi, hz, hsize, hby⟩ := info_parts el_u8.1
    have hl := hown.1
    by_cases hroom : n + m ≤ cap
    · by_cases h0 : m = 0
      · subst h0
        have : news = [] := List.eq_nil_of_length_eq_zero hm
        subst this
        cases A with
        | none =>
          refine ⟨_, w, ?_, by simpa using hown, World.grownBy.refl w _, .inl rfl⟩
          simp [Builtin.append_, run_underlying Tryd.underlying40, sizeOf, typeInfo, hi, Builtin.lenOf, Builtin.firstCells, h4, storeCells]
        | some a =>
          have hfit : n * i.size + ([] : List Value).length ≤ cur.size := by rw [hsize]; simp; omega
          have hrun := run_append_room (P := Tryd.prog) w 40 ty 5 i Tryd.underlying40 hi g n cap cur h3 a 0 c [] (by simp) (fun j u hu => by simp at hu) (fun u hu => by cases hu) (by omega) hfit
          refine ⟨_, _, hrun, ⟨by simp [hl], .inr ⟨g, cap, _, rfl, h2, setRow_heap w g cur _ 5 _ h3, by omega, h5, ?_, ?_⟩⟩, ⟨rfl, rfl, rfl, by simp, fun k hk hk2 => setRow_other w g k _ (fun e => hk2 (by simp [Value.ownBlock, e]))⟩, .inl rfl⟩
          · simp [hsize]; omega
          · have e1 : (u8s l).length = n := by rw [u8s_len, hl]
            simp [hsize, h7]
            exact List.take_left' e1
      · obtain ⟨b, o, rfl, hc⟩ := hr.2 (by omega)
        have hcells : ∀ j u, (u8s news)[j]? = some u → w.cell? ((⟨b, o, none⟩ : Addr).add j) = some u := fun j u hu => by
          have := hc j u hu
          by_cases hj : j = 0 <;> simp_all [Addr.add]
        have hfit : n * i.size + (u8s news).length ≤ cur.size := by rw [hsize, u8s_len]; omega
        have hrun := run_append_room (P := Tryd.prog) w 40 ty 5 i Tryd.underlying40 hi g n cap cur h3 ⟨b, o, none⟩ m c (u8s news) (by rw [u8s_len, hsize]; omega) hcells (one_u8 _) hroom hfit
        refine ⟨_, _, hrun, ⟨by simp [hl, hm], .inr ⟨g, cap, _, rfl, h2, setRow_heap w g cur _ 5 _ h3, hroom, h5, ?_, ?_⟩⟩, ⟨rfl, rfl, rfl, by simp, fun k hk hk2 => setRow_other w g k _ (fun e => hk2 (by simp [Value.ownBlock, e]))⟩, .inl rfl⟩
        · simp [hsize, u8s_len]; omega
        · have e1 : (u8s l ++ u8s news).length = n + m := by rw [List.length_append, u8s_len, u8s_len, hl, hm]
          simp only [hsize, Nat.mul_one, h7, u8s_app]
          exact List.take_left' e1
    · obtain ⟨b, o, rfl, hc⟩ := hr.2 (by omega)
      have hcells : ∀ j u, (u8s news)[j]? = some u → w.cell? ((⟨b, o, none⟩ : Addr).add j) = some u := fun j u hu => by
        have := hc j u hu
        by_cases hj : j = 0 <;> simp_all [Addr.add]
      have holds : ∀ j u, (u8s l)[j]? = some u → w.cell? ((⟨g, 0, none⟩ : Addr).add j) = some u := fun j u hu => by
        have hrd := hown.rd
        have hj : j < n := by
          have h8 := (List.getElem?_eq_some_iff.1 hu).1
          rw [u8s_len] at h8; omega
        obtain ⟨b2, o2, he, hc2⟩ := hrd.2 (by omega)
        cases he
        have := hc2 j u hu
        by_cases hj0 : j = 0 <;> simp_all [Addr.add]
      have hrun := run_append_grow (P := Tryd.prog) w 40 ty 5 i _ Tryd.underlying40 hi hz ⟨g, 0, none⟩ n cap (u8s l) (by rw [u8s_len, hsize]; omega) holds ⟨b, o, none⟩ m c (u8s news) (by rw [u8s_len, hsize]; omega) hcells (by omega) (by omega) (growslice_fits (by omega) (by rw [hby]; omega))
      have hge := grownCap_ge w (n + m) cap 5
      have hcm : grownCap w (n + m) cap 5 ≤ maxLen := grownCap_le_maxLen w (n + m) cap 5 (by simp only [maxLen]; omega)
      refine ⟨_, _, hrun, ⟨by simp [hl, hm], .inr ⟨w.heap.size, _, _, rfl, hbase, heap_alloc_new w.drew _, hge, hcm, ?_, ?_⟩⟩, ⟨rfl, rfl, rfl, by simp, fun k hk _ => (ExtA (ExtD (Ext.rfl' w))).block k hk⟩, .inr rfl⟩
      · simp only [Array.size_append, List.size_toArray, size_zeroCells, u8s_len, el_u8.2.1]
        omega
      · have e1 : (u8s l ++ u8s news).length = n + m := by rw [List.length_append, u8s_len, u8s_len, hl, hm]
        simp only [Array.toList_append, u8s_app]
        exact List.take_left' e1
  · have hrow : w.ownsRow base 5 1 v n (u8s l) := by
      refine ⟨by rw [u8s_len, hown.1]; omega, ?_⟩
      rcases hown.2 with h | ⟨g, cap, cur, h1, h2, h3, h4, h5, h6, h7⟩
      · exact .inl h
      · refine .inr ⟨g, cap, cur, h1, h2, h3, h4, h5, ?_, by simpa using h7⟩
        by_cases hc : cap = cur.size
        · omega
        · exact absurd ⟨g, cap, cur, h1, h2, h3, h4, h5, h6, h7, hc⟩ hfull
    obtain ⟨v', w', hrun, h2, h3, h4⟩ := run_append_rd (P := Tryd.prog) (w := w) base 40 ty 5 _ 1 1 Tryd.underlying40 el_u8 v n (u8s l) hrow A m c (u8s news) hr.toN (one_u8 _) (by simp only [maxLen]; omega) (by omega) hbase
    exact ⟨v', w', hrun, .of_own (by rw [u8s_app]; exact h2), h3, h4⟩
theorem wpC_append {ops : Array Oper} {rest : List Oper} {o : Oper} {a : Act} {Q : Exit → Act → World → Prop} (hgd : o.guard = none) (s x : Operand)
    (ho : o.op = .call { callee := .builtin .append, args := #[s, x], argTypes := #[40, 40] }) (base : Nat) (v : Value) (n : Nat) (l : List UInt8) (hs : a.eval s = v) (hown : OwnC w base v n l)
    (A : Option Addr) (m c : Nat) (news : List UInt8) (hx : a.eval x = .slice A m c) (hr : Rd w A m (u8s news)) (hb : n + m ≤ 140737488355328) (hbase : base ≤ w.heap.size)
    (h : ∀ v' w', OwnC w' base v' (n + m) (l ++ news) → w.grownBy w' v.ownBlock → (v'.ownBlock = v.ownBlock ∨ v'.ownBlock = some w.heap.size) → wpList Tryd.prog ops Q rest (a.put o.dst v') w') : wpList Tryd.prog ops Q (o :: rest) a w := by
  obtain ⟨v', w', hrun, h2, h3, h4⟩ := run_appendC (w := w) base o.type v n l hown A m c news hr hb hbase
  refine wpList_plain hgd fun K hK => ?_
  unfold Oper.wp execOp
  simp only [ho, resolve, invoke, builtin, Sem.run_bind, Sem.run_pure, Result.andThen_ok, List.map_toArray, List.map_cons, List.map_nil, hs, hx, hrun]
  exact hK _ _ (h v' w' h2 h3 h4)
end
end Go.Proofs.YtdoaniimfhpjhaaDoor
