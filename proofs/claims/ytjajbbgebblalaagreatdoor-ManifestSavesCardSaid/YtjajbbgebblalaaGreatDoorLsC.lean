/-
  The walk of chapter 10's call. (Written by wip/tools/gen_call.py.)
-/
import Derived.Test.YtjajbbgebblalaaGreatDoorFsT
import Derived.Test.YtjajbbgebblalaaGreatDoorOpA
namespace Go.Proofs.YtjajbbgebblalaaGreatDoor
open Go.RowKit
set_option linter.unusedVariables false
set_option linter.unusedSimpArgs false
open Go.Maps
theorem OwnC.low {w : World} {base base' n : Nat} {v : Value} {l : List UInt8} (h : OwnC w base v n l) (hb : base' ≤ base) : OwnC w base' v n l := by
  refine ⟨h.1, ?_⟩
  rcases h.2 with h2 | ⟨g, cap, cur, h1, h2, h3⟩
  · exact .inl h2
  · exact .inr ⟨g, cap, cur, h1, Nat.le_trans hb h2, h3⟩
theorem FsX.low {W W1 w : World} {g b : Nat} {d : Dk} {D : DataW Value} {hs : List HF} (h : FsX W1 w g d b D hs) (hx : Ext W W1) : FsX W w g d b D hs :=
  { h with ext := hx.tr h.ext, fil := fun f hf => ⟨(h.fil f hf).1, (h.fil f hf).2.low hx.size⟩, base := fun r hr => Nat.le_trans hx.size (h.base r hr) }
def callD (d : Dk) (o : Op10) : Dk × List UInt8 × Nat × Nat :=
  if o.k = 0 then ((createD d o.name).1, [], 0, (createD d o.name).2) else
  if o.k = 1 then ((appendD d o.name o.b).1, [], 0, (appendD d o.name o.b).2) else
  if o.k = 2 then ((syncD d o.name).1, [], 0, (syncD d o.name).2) else
  if o.k = 3 then ((renameD d o.name o.tgt).1, [], 0, (renameD d o.name o.tgt).2) else
  if o.k = 4 then ((removeD d o.name).1, [], 0, (removeD d o.name).2) else
  if o.k = 5 then ((cutD d o.name o.n).1, [], 0, (cutD d o.name o.n).2) else
  if o.k = 6 then ((readD d o.name o.n o.m).1, (readD d o.name o.n o.m).2.1, 0, (readD d o.name o.n o.m).2.2) else
  if o.k = 7 then (d, [], (sizeD d o.name).1, (sizeD d o.name).2) else
  if o.k = 8 then (restartD d o.keep, [], 0, 0) else
  if o.k = 9 then ({ d with fuse := max 0 o.n }, [], 0, 0) else (d, [], 0, 0)
theorem inv_call {d : Dk} (h : DkInv d) (o : Op10) (hn : IsI64 o.n) : DkInv (callD d o).1 := by
  unfold callD
  split; exact inv_create h _
  split; exact inv_append h _ _
  split; exact inv_sync h _
  split; exact inv_rename h _ _
  split; exact inv_remove h _
  split; exact inv_cut h _ _
  split; exact inv_read h _ _ _
  split; exact h
  split; exact inv_restart h _
  split; exact inv_fuse h _ hn.2
  exact h
theorem callD_steps (d : Dk) (o : Op10) : d.steps ≤ (callD d o).1.steps ∧ (callD d o).1.steps ≤ d.steps + 1 := by
  unfold callD
  split; exact createD_steps _ _
  split; exact appD_steps _ _ _
  split; exact syncD_steps _ _
  split; exact renameD_steps _ _ _
  split; exact removeD_steps _ _
  split; exact cutD_steps _ _ _
  split; · dsimp only; rw [readD_steps]; omega
  split; · dsimp only; omega
  split; · have : (restartD d o.keep).steps = d.steps := rfl
           dsimp only; omega
  split; · dsimp only; omega
  dsimp only; omega
def CallPost (W w : World) (g b : Nat) (hs : List HF) (r : Dk × List UInt8 × Nat × Nat) (e : Ending) (w' : World) : Prop :=
  ∃ A c, e = .returned (.tuple #[.slice A r.2.1.length c, .int .i64 (r.2.2.1 : Nat), .int .i64 (r.2.2.2 : Nat)]) ∧ FsTo W w w' g b hs r.1 ∧ w'.ownsRow w.heap.size 5 1 (.slice A r.2.1.length c) r.2.1.length (u8s r.2.1)
theorem call_nil {W w w' : World} {g b : Nat} {hs : List HF} {d' : Dk} {n e : Nat} (h : FsTo W w w' g b hs d') : CallPost W w g b hs (d', [], n, e) (.returned (.tuple #[.slice none 0 0, .int .i64 (n : Nat), .int .i64 (e : Nat)])) w' := ⟨none, 0, rfl, h, World.ownsRow_nil _ _ _ _⟩
theorem FsX.keep {W w w' : World} {g b : Nat} {d : Dk} {D : DataW Value} {hs : List HF} {F : List Nat} (h : FsX W w g d b D hs) (ht : Turn F w w') (hn : ∀ r ∈ F, r ∉ foot g b hs) (hb : ∀ r ∈ F, W.heap.size ≤ r) : FsX W w' g d b D hs :=
  { ext := ht.ext h.ext hb, blk := ht.blk h.blk (fun hc => hn _ hc foot_g), own := (by obtain ⟨n, hn', ho⟩ := h.own; exact ⟨n, hn', ht.map ho (fun hc => hn _ hc foot_b)⟩), map := h.map, fil := fun f hf => (h.fil f hf).turn ht (fun r hr hc => hn r hc (foot_h hf hr)), dis := h.dis, base := h.base, lt := fun r hr => Nat.lt_of_lt_of_le (h.lt r hr) ht.size, hsd := h.hsd, cnt := h.cnt }
theorem own_emptyJ (w : World) (base g : Nat) (hg : w.heap.size = g) (hb : base ≤ g) : (w.alloc (.cells #[] 3)).ownsRow base 3 1 (.slice (some ⟨g, 0, none⟩) 0 0) 0 (ints []) := by
  subst hg
  exact own_emptyI w base hb
theorem results3 {P : Program} {w : World} {fn : Func} {x y z : Tmp} {vx vy vz : Value} (h : fn.results = #[.tmp x, .tmp y, .tmp z]) (tmps : Array Value) (hx : tmps.getD x undef = vx) (hy : tmps.getD y undef = vy) (hz : tmps.getD z undef = vz) : (results fn tmps).run P w = .ok (.tuple #[vx, vy, vz]) w := by
  subst hx hy hz
  simp [results, h]
def XorR (W w w8 : World) (g b : Nat) (d : Dk) (D : DataW Value) (hs : List HF) (A : Option Addr) (c : Nat) (bs : List UInt8) (c34 : Value) (wr : World) : Prop :=
  ∃ (k : Nat) (xs : List Value), c34 = .int .i64 k ∧ k ≤ bs.length ∧ FsX W wr g d b D hs ∧ Turn ((Value.slice A bs.length c).ownBlock.toList) w8 wr ∧ wr.ownsRow w.heap.size 5 1 (.slice A bs.length c) bs.length xs ∧ ∀ j, k ≤ j → xs[j]? = (u8s bs)[j]?
theorem own_frozen {w : World} {base g n c : Nat} {e : TypeId} {xs : List Value} (h : w.ownsRow base e 1 (.slice (some ⟨g, 0, none⟩) n c) n xs) {k : Nat} : w.frozen? ⟨g, k, none⟩ = false := by
  rcases h.2 with ⟨hv, _⟩ | ⟨g2, cap, cur, hv, h1, h2, _⟩
  · cases hv
  · injection hv with e1 _ _
    injection e1 with e1
    injection e1 with e1
    subst e1
    exact Blk.frozen h2 k
theorem own_set {w : World} {base g n c : Nat} {e : TypeId} {xs : List Value} {v : Value} (h : w.ownsRow base e 1 (.slice (some ⟨g, 0, none⟩) n c) n xs) (k : Nat) (hk : k < n) : (w.setCell ⟨g, k, none⟩ v).ownsRow base e 1 (.slice (some ⟨g, 0, none⟩) n c) n (xs.set k v) := by
  refine ⟨by rw [List.length_set]; exact h.1, ?_⟩
  rcases h.2 with ⟨hv, _⟩ | ⟨g2, cap, cur, hv, h1, h2, h3, h4, h5, h6⟩
  · cases hv
  · injection hv with e1 e2 e3
    injection e1 with e1
    injection e1 with e1
    subst e1 e3
    refine .inr ⟨g, c, cur.setIfInBounds k v, rfl, h1, BlkS h2, h3, h4, by simpa using h5, ?_⟩
    rw [Array.toList_setIfInBounds, List.take_set, h6]
end Go.Proofs.YtjajbbgebblalaaGreatDoor
