/-
  A range over a function whose iterator tells of memory: what is true of each thing where it is handed out, and of all of them where it ends. No program in sight.
-/
/-
  The way out of a function with a range over a function: the mark of its deferred calls; what abides the turn of a block that is no cells. No program in sight.
-/
import Derived.Test.YtjajbbgebblalaaGreatDoorOwn
import Derived.RangeFuncFrom
import Derived.RangeFuncNested
namespace Go.Proofs.YtjajbbgebblalaaGreatDoor
open Go.RowKit
set_option linter.unusedVariables false
set_option linter.unusedSimpArgs false
section
variable {F : Fence} {n : Nat} {P : Program}
/-- An iterator's contract that tells of memory: what is true of a thing where it is handed out (Kn), and of all that came where it ends (S, Sp). -/
def SeqKn {α : Type} (F : Fence) (n : Nat) (P : Program) (g : Nat) (lb : Array Value) (encs : α → Array Value) (Kn : α → World → Prop) (Kp : World → World → Prop) (S Sp : List α → World → Prop) (N : Nat) (w : World) : Prop :=
  ∀ (l : Nat) (J Jx : List α → World → Prop) (W : World), Below w.heap.size w W → w.heap.size ≤ l → l < W.heap.size → AbidesFrom W.heap.size J → AbidesFrom W.heap.size Jx →
    (∀ pre x W1, J pre W1 → Kn x W1 → pre.length < N → YieldAt F (n - 1) P l (encs x) W1 fun e W' =>
      (e = .returned (.bool true) ∧ J (pre ++ [x]) W' ∧ Kp W1 W') ∨ (e = .returned (.bool false) ∧ Jx (pre ++ [x]) W' ∧ Kp W1 W')) →
    J [] W → CallsIn F n P g (#[.func (.yield l) #[] #[]] ++ lb) W fun e W' => (∃ v, e = .returned v) ∧ ((∃ xs, S xs W' ∧ J xs W') ∨ (∃ pre, Sp pre W' ∧ Jx pre W'))
/-- How a round's body may be left. -/
def knPost {α : Type} (Kp : World → World → Prop) (I : List α → World → Prop) (Ix : Code → List α → World → Prop) (xs : List α) (W : World) : Exit → Act → World → Prop
  | .normal, _, W' => KeepsOthers W W' ∧ Kp W W' ∧ I xs W'
  | .ret, _, W' => KeepsOthers W W' ∧ Kp W W' ∧ Ix .ret xs W'
  | .exit id, _, W' => KeepsOthers W W' ∧ Kp W W' ∧ Ix (.exit id) xs W'
  | .goto t, _, W' => KeepsOthers W W' ∧ Kp W W' ∧ Ix (.goto t) xs W'
  | _, _, _ => False
theorem wpIn_range_kn {α : Type} {g : Operand} {ps : Array Tmp} {assign body : Code} {Q : Exit → Act → World → Prop} {a : Act} {w : World}
    (hro : F.round = none) (h1 : 1 ≤ n) {gf : Nat} {lb : Array Value} (hg : a.eval g = .func (.func gf) #[] lb) (hFg : F.fn gf) (eg : ∀ args w, (callFunc gf args).run P w = .ok (.enter gf args) w)
    {encs : α → Array Value} {Kn : α → World → Prop} {Kp : World → World → Prop} {S Sp : List α → World → Prop} {N : Nat} (hseq : SeqKn F (n - 1) P gf lb encs Kn Kp S Sp N w)
    (hKt : ∀ {A B C : World}, Kp A B → Kp B C → Kp A C) (hKb : ∀ (W : World) (l : Nat) (o o' : Obj), w.heap.size ≤ l → W.heap[l]? = some o → o.isCells = false → o.isWalk = false → Kp W (W.putObj l o')) (hps : ∀ x, (encs x).size = ps.size)
    (I : List α → World → Prop) (Ix : Code → List α → World → Prop) (hI : OwnFrom w.heap.size I) (hIx : ∀ c, OwnFrom w.heap.size (Ix c)) (hKn : OwnFrom w.heap.size Kn) (hS : OwnFrom w.heap.size S) (hSp : OwnFrom w.heap.size Sp) (h0 : I [] w) (Ax : α → Act → World → Prop) (hAx : ∀ x a', OwnFrom w.heap.size (fun (_ : Unit) W => Ax x a' W))
    (hassign : ∀ (l : Nat) (pre : List α) (x : α) (W : World) (K : Act → World → Prop), I pre W → Kn x W → (∀ a' W', KeepsOthers W W' → Kp W W' → I pre W' → Kn x W' → Ax x a' W' → K a' W') →
      assign.wpIn (F.inRound l) (n - 1 - 1) P (Exit.then K (fun _ _ _ => False)) { tmps := (ps.zip (encs x)).foldl (fun t (p, v) => t.setIfInBounds p v) a.tmps, defers := [] } W)
    (hbody : ∀ (l : Nat) (pre : List α) (x : α) (a' : Act) (W : World), I pre W → Kn x W → Ax x a' W → pre.length < N → body.wpIn (F.inRound l) (n - 1 - 1) P (knPost Kp I Ix (pre ++ [x]) W) a' W)
    (hdone : ∀ (D : Nat) (xs : List α) (W : World), w.heap.size ≤ D → S xs W → I xs W → W.heap[D]? = some (.deferred (some [])) → Q .normal { a with defers := { target := .collected D, args := #[] } :: a.defers } W)
    (hstop : ∀ (D : Nat) (c : Code) (pre : List α) (W : World), w.heap.size ≤ D → Sp pre W → Ix c pre W → W.heap[D]? = some (.deferred (some [])) → c.wpIn F n P Q { a with defers := { target := .collected D, args := #[] } :: a.defers } W) :
    (Code.rangeFunc g ps assign body).wpIn F n P Q a w := by
  refine wpIn_rangeFunc fun fn hfn => ?_
  rw [hro]
  -- the two blocks that the statement lays: D = w.heap.size for deferred calls, L behind it for the loop
  generalize hD : w.heap.size = D at *
  let lp : LoopState → Option Code → Loop := fun st pe => { state := st, pending := pe, fn, tmps := a.tmps, params := ps, assign, body, defers := D }
  obtain ⟨V, hV⟩ : ∃ V, V = (w.alloc (.deferred (some []))).alloc (.loop (lp .ready none)) := ⟨_, rfl⟩
  have zD : (w.alloc (.deferred (some []))).heap.size = D + 1 := by rw [World.size_alloc, hD]
  have sV : V.heap.size = D + 2 := by rw [hV, World.size_alloc, zD]
  have lV : V.heap[D + 1]? = some (.loop (lp .ready none)) := by
    have := World.alloc_heap_new (w.alloc (.deferred (some []))) (.loop (lp .ready none))
    rw [zD] at this
    rw [hV]; exact this
  have dV : V.heap[D]? = some (.deferred (some [])) := by
    have := World.alloc_heap_new w (.deferred (some []))
    rw [hD] at this
    rw [hV]
    exact (Below.heap_alloc _ _ D (by rw [zD]; omega)).trans this
  have bV : Below D w V := by
    rw [hV]
    exact ((Below.refl D w).alloc (by omega) _).trans ((Below.refl D _).alloc (by rw [zD]; omega) _)
  have iV : I [] V := by rw [hV]; exact hI.alloc _ (hI.alloc _ h0)
  have nc : ∀ {A : World} {row : Option Nat}, (∀ r, row = some r → V.heap.size ≤ r ∧ ∃ o : Obj, A.heap[r]? = some o ∧ o.isWalk = true) → ∀ r, row = some r → D ≤ r ∧ ∃ o : Obj, A.heap[r]? = some o ∧ o.isCells = false := fun h r e => by
    obtain ⟨h2, o, h3, h4⟩ := h r e
    exact ⟨by omega, o, h3, Obj.not_cells_of_walk h4⟩
  refine ⟨D + 1, [{ target := .collected D, args := #[] }], V, { target := .fn (.func gf) lb, args := #[.func (.yield (D + 1)) #[] #[]] }, V, gf, #[.func (.yield (D + 1)) #[] #[]] ++ lb, V, ?_, ?_, ?_, ?_, fun _ => h1, ?_⟩
  · rw [hV]
    have := run_enterLoop_outer (P := P) (w := w) fn a.tmps ps assign body
    rw [hD] at this
    exact this
  · simp only [resolve, hg]
    simp [go_sem]
  · intro f' hf'
    simp [Target.leads] at hf'
    subst hf'
    exact hFg
  · simp [invoke, go_sem, eg]
  refine (hseq (D + 1) (fun pre W => I pre W ∧ W.heap[D + 1]? = some (.loop (lp .ready none)) ∧ W.heap[D]? = some (.deferred (some [])))
    (fun pre W => ∃ c, Ix c pre W ∧ W.heap[D + 1]? = some (.loop (lp .done (some c))) ∧ W.heap[D]? = some (.deferred (some []))) V (by rw [hD]; exact bV) (by omega) (by omega)
    (fun s A B row ⟨h2, h3, h4⟩ hg2 hr => ⟨hI s A B row h2 hg2 (nc hr), (grownBy_keeps hg2 (fun r e => (hr r e).2) h3 rfl).trans h3, (grownBy_keeps hg2 (fun r e => (hr r e).2) h4 rfl).trans h4⟩)
    (fun s A B row ⟨c, h2, h3, h4⟩ hg2 hr => ⟨c, hIx c s A B row h2 hg2 (nc hr), (grownBy_keeps hg2 (fun r e => (hr r e).2) h3 rfl).trans h3, (grownBy_keeps hg2 (fun r e => (hr r e).2) h4 rfl).trans h4⟩)
    ?round ⟨iV, lV, dV⟩).mono ?behind
  case round =>
    rintro pre x W0 ⟨hi0, hl0, hk0⟩ hn0 hlen
    refine ⟨fn, _, assign, body, run_yield (P := P) (args := encs x) hl0 (hps x), roundIn_of_wpIn hfn (hassign _ pre x W0 _ hi0 hn0 (fun a' W hko hkp hi hn2 hax => ?_))⟩
    have hl := hko.same _ _ hl0 rfl
    have hk := hko.same _ _ hk0 rfl
    have hlt : D + 1 < W.heap.size := (Array.getElem?_eq_some_iff.1 hl).1
    refine ⟨_, run_beginRound hl rfl, ?_⟩
    generalize hB : (Obj.loop { lp .ready none with state := .busy }) = busy
    have w1 : Kp W (W.putObj (D + 1) busy) := hKb _ _ _ _ (by omega) hl rfl rfl
    have l1 : (W.putObj (D + 1) busy).heap[D + 1]? = some busy := World.putObj_heap_same hlt
    have k1 : (W.putObj (D + 1) busy).heap[D]? = some (.deferred (some [])) := (World.putObj_heap_other (by omega)).trans hk
    have key : ∀ (jump : Option Code) (W3 : World), KeepsOthers (W.putObj (D + 1) busy) W3 →
        (Instr.endRound (D + 1) jump).run P W3 = .ok (.bool jump.isNone) (W3.putObj (D + 1) (.loop (lp (if jump.isNone then .ready else .done) jump))) ∧ W3.heap[D + 1]? = some busy ∧ busy.isCells = false ∧ busy.isWalk = false ∧
        (W3.putObj (D + 1) (.loop (lp (if jump.isNone then .ready else .done) jump))).heap[D + 1]? = some (.loop (lp (if jump.isNone then .ready else .done) jump)) ∧
        (W3.putObj (D + 1) (.loop (lp (if jump.isNone then .ready else .done) jump))).heap[D]? = some (.deferred (some [])) := fun jump W3 h3 => by
      have l3 := h3.same _ _ l1 (by rw [← hB]; rfl)
      have k3 := h3.same _ _ k1 rfl
      refine ⟨?_, l3, by rw [← hB]; rfl, by rw [← hB]; rfl, World.putObj_heap_same (Array.getElem?_eq_some_iff.1 l3).1, (World.putObj_heap_other (by omega)).trans k3⟩
      rw [← hB] at l3
      exact run_endRound (P := P) jump l3
    refine wpIn_mono (hbody _ pre x a' _ (hI.putObj _ hi (by omega) hl rfl) (hKn.putObj _ hn2 (by omega) hl rfl) ((hAx x a').putObj (s := ()) _ hax (by omega) hl rfl) hlen) ?_
    rintro e a3 W3 hp
    cases e with
    | normal =>
      obtain ⟨h3, p3, i3⟩ := hp
      obtain ⟨r3, l3, c3, v3, l4, k4⟩ := key none W3 h3
      exact ⟨_, _, r3, .inl ⟨rfl, ⟨hI.putObj _ i3 (by omega) l3 c3, l4, k4⟩, hKt (hKt (hKt hkp w1) p3) (hKb _ _ _ _ (by omega) l3 c3 v3)⟩⟩
    | ret =>
      obtain ⟨h3, p3, i3⟩ := hp
      obtain ⟨r3, l3, c3, v3, l4, k4⟩ := key (some .ret) W3 h3
      exact ⟨_, _, r3, .inr ⟨rfl, ⟨.ret, (hIx _).putObj _ i3 (by omega) l3 c3, l4, k4⟩, hKt (hKt (hKt hkp w1) p3) (hKb _ _ _ _ (by omega) l3 c3 v3)⟩⟩
    | exit id =>
      obtain ⟨h3, p3, i3⟩ := hp
      obtain ⟨r3, l3, c3, v3, l4, k4⟩ := key (some (.exit id)) W3 h3
      exact ⟨_, _, r3, .inr ⟨rfl, ⟨.exit id, (hIx _).putObj _ i3 (by omega) l3 c3, l4, k4⟩, hKt (hKt (hKt hkp w1) p3) (hKb _ _ _ _ (by omega) l3 c3 v3)⟩⟩
    | goto t =>
      obtain ⟨h3, p3, i3⟩ := hp
      obtain ⟨r3, l3, c3, v3, l4, k4⟩ := key (some (.goto t)) W3 h3
      exact ⟨_, _, r3, .inr ⟨rfl, ⟨.goto t, (hIx _).putObj _ i3 (by omega) l3 c3, l4, k4⟩, hKt (hKt (hKt hkp w1) p3) (hKb _ _ _ _ (by omega) l3 c3 v3)⟩⟩
    | panic ch => exact hp.elim
    | outgrown => exact hp.elim
  case behind =>
    rintro e W2 ⟨⟨v, rfl⟩, ⟨xs, s2, i2, l2, k2⟩ | ⟨pre, s2, c, i2, l2, k2⟩⟩
    · exact ⟨none, _, run_endLoop (P := P) l2 (by simp [lp]), hdone D xs _ (by omega) (hS.putObj _ s2 (by omega) l2 rfl) (hI.putObj _ i2 (by omega) l2 rfl) ((World.putObj_heap_other (by omega)).trans k2)⟩
    · exact ⟨some c, _, run_endLoop (P := P) l2 (by simp [lp]), hstop D c pre _ (by omega) (hSp.putObj _ s2 (by omega) l2 rfl) ((hIx c).putObj _ i2 (by omega) l2 rfl) ((World.putObj_heap_other (by omega)).trans k2)⟩
end
end Go.Proofs.YtjajbbgebblalaaGreatDoor

namespace Go.Proofs.YtjajbbgebblalaaGreatDoor
open Go.RowKit
set_option linter.unusedVariables false
set_option linter.unusedSimpArgs false
theorem bodyPostM_ret1 {F : Fence} {n : Nat} {P : Program} {fn : Func} {R : Ending → World → Prop} {a : Act} {w : World} {v : Value} {D : Nat} (hd : a.defers = [{ target := .collected D, args := #[] }]) (hk : w.heap[D]? = some (.deferred (some [])))
    (hr : (results fn a.tmps).run P (w.putObj D (.deferred none)) = .ok v (w.putObj D (.deferred none))) (hR : R (.returned v) (w.putObj D (.deferred none))) : bodyPostM F n P fn R .ret a w := by
  show LeavesInM F n P fn a.tmps R a.defers .returning w
  rw [hd]
  exact ⟨by simp, .inl ⟨_, _, rfl, run_takeDeferred hk, ⟨v, hr, hR⟩⟩⟩
theorem blk_from {w w' : World} {g : Nat} {t : TypeId} {cs : Array Value} {row : Option Nat} (h : Blk w g t cs) (hg : w.grownBy w' row) (hr : ∀ r, row = some r → ∃ o : Obj, w.heap[r]? = some o ∧ o.isCells = false) : Blk w' g t cs :=
  BlkG h hg fun e => by
    obtain ⟨o, ho, hc⟩ := hr g e.symm
    have h2 : w.heap[g]? = some (.cells cs t (0, 0)) := h
    rw [h2] at ho
    cases ho
    cases hc
theorem own_from {w w' : World} {base s n : Nat} {e : TypeId} {v : Value} {xs : List Value} {row : Option Nat} (h : w.ownsRow base e s v n xs) (hg : w.grownBy w' row) (hr : ∀ r, row = some r → ∃ o : Obj, w.heap[r]? = some o ∧ o.isCells = false) : w'.ownsRow base e s v n xs := by
  refine h.kept hg ?_
  rcases h.2 with ⟨rfl, _⟩ | ⟨g, cap, cur, rfl, _, hgb, _⟩
  · exact .inl rfl
  · refine .inr fun e' => ?_
    have e2 : some g = row := by simpa [Value.ownBlock] using e'
    obtain ⟨o, ho, hc⟩ := hr g e2.symm
    rw [hgb] at ho
    cases ho
    cases hc
theorem own_cells {w : World} {base s n c : Nat} {e : TypeId} {A : Option Addr} {xs : List Value} (h : w.ownsRow base e s (.slice A n c) n xs) : ∀ j, (Value.slice A n c).ownBlock = some j → ∃ cur, Blk w j e cur := by
  intro j hj
  rcases h.2 with ⟨h1, _⟩ | ⟨g, cap, cur, h1, _, hgb, _⟩
  · rw [h1] at hj; cases hj
  · injection h1 with h1 _ _
    rw [h1] at hj
    cases hj
    exact ⟨cur, hgb⟩
theorem dfE {w w' : World} {D : Nat} {o : Obj} (hx : Ext w w') (h : w.heap[D]? = some o) : w'.heap[D]? = some o := (hx.block D (Array.getElem?_eq_some_iff.1 h).1).trans h
theorem extP {a w : World} {D : Nat} {o' : Obj} (hx : Ext a w) (hD : a.heap.size ≤ D) : Ext a (w.putObj D o') := Below.grown hx (grownBy_putObj' w D o') hx.size (fun k e => by cases e; exact hD)
end Go.Proofs.YtjajbbgebblalaaGreatDoor
