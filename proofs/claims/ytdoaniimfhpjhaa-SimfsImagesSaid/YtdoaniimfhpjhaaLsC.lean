/-
  The walk of chapter 10's call. (Written by wip/tools/gen_call.py.)
-/
import Derived.Test.YtdoaniimfhpjhaaFsY
import Derived.Test.YtdoaniimfhpjhaaOpA
namespace Go.Proofs.Ytdoaniimfhpjhaa
open Go.RowKit
set_option linter.unusedVariables false
set_option linter.unusedSimpArgs false
open Go.Maps
theorem OwnC.low {w : World} {base base' n : Nat} {v : Value} {l : List UInt8} (h : OwnC w base v n l) (hb : base' ≤ base) : OwnC w base' v n l := by
  refine ⟨h.1, ?_⟩
  rcases h.2 with h2 | ⟨g, cap, cur, h1, h2, h3⟩
  · exact .inl h2
  · exact .inr ⟨g, cap, cur, h1, Nat.le_trans hb h2, h3⟩
theorem FsX.low {W W1 w : World} {g b : Nat} {d : Dk} {D : DataW Value} {hs : List HF} (h : FsX W1 w g d b D hs) (hx : Ext W W1) : FsX W w g d b D hs :=
  { h with ext := hx.tr h.ext, fil := fun f hf => ⟨(h.fil f hf).1, (h.fil f hf).2.low hx.size⟩, base := fun r hr => Nat.le_trans hx.size (h.base r hr) }
def callD (d : Dk) (o : Op10) : Dk × List UInt8 × Nat × Nat :=
  if o.k = 0 then ((createD d o.name).1, [], 0, (createD d o.name).2) else
  if o.k = 1 then ((appendD d o.name o.b).1, [], 0, (appendD d o.name o.b).2) else
  if o.k = 2 then ((syncD d o.name).1, [], 0, (syncD d o.name).2) else
  if o.k = 3 then ((renameD d o.name o.tgt).1, [], 0, (renameD d o.name o.tgt).2) else
  if o.k = 4 then ((removeD d o.name).1, [], 0, (removeD d o.name).2) else
  if o.k = 5 then ((cutD d o.name o.n).1, [], 0, (cutD d o.name o.n).2) else
  if o.k = 6 then ((readD d o.name o.n o.m).1, (readD d o.name o.n o.m).2.1, 0, (readD d o.name o.n o.m).2.2) else
  if o.k = 7 then (d, [], (sizeD d o.name).1, (sizeD d o.name).2) else
  if o.k = 8 then (restartD d o.keep, [], 0, 0) else
  if o.k = 9 then ({ d with fuse := max 0 o.n }, [], 0, 0) else (d, [], 0, 0)
theorem inv_call {d : Dk} (h : DkInv d) (o : Op10) (hn : IsI64 o.n) : DkInv (callD d o).1 := by
  unfold callD
  split; exact inv_create h _
  split; exact inv_append h _ _
  split; exact inv_sync h _
  split; exact inv_rename h _ _
  split; exact inv_remove h _
  split; exact inv_cut h _ _
  split; exact inv_read h _ _ _
  split; exact h
  split; exact inv_restart h _
  split; exact inv_fuse h _ hn.2
  exact h
theorem callD_steps (d : Dk) (o : Op10) : d.steps ≤ (callD d o).1.steps ∧ (callD d o).1.steps ≤ d.steps + 1 := by
  unfold callD
  split; exact createD_steps _ _
  split; exact appD_steps _ _ _
  split; exact syncD_steps _ _
  split; exact renameD_steps _ _ _
  split; exact removeD_steps _ _
  split; exact cutD_steps _ _ _
  split; · dsimp only; rw [readD_steps]; omega
  split; · dsimp only; omega
  split; · have : (restartD d o.keep).steps = d.steps := rfl
           dsimp only; omega
  split; · dsimp only; omega
  dsimp only; omega
def CallPost (W w : World) (g b : Nat) (hs : List HF) (r : Dk × List UInt8 × Nat × Nat) (e : Ending) (w' : World) : Prop :=
  ∃ A c, e = .returned (.tuple #[.slice A r.2.1.length c, .int .i64 (r.2.2.1 : Nat), .int .i64 (r.2.2.2 : Nat)]) ∧ FsTo W w w' g b hs r.1 ∧ w'.ownsRow w.heap.size 5 1 (.slice A r.2.1.length c) r.2.1.length (u8s r.2.1)
theorem call_nil {W w w' : World} {g b : Nat} {hs : List HF} {d' : Dk} {n e : Nat} (h : FsTo W w w' g b hs d') : CallPost W w g b hs (d', [], n, e) (.returned (.tuple #[.slice none 0 0, .int .i64 (n : Nat), .int .i64 (e : Nat)])) w' := ⟨none, 0, rfl, h, World.ownsRow_nil _ _ _ _⟩
theorem FsX.keep {W w w' : World} {g b : Nat} {d : Dk} {D : DataW Value} {hs : List HF} {F : List Nat} (h : FsX W w g d b D hs) (ht : Turn F w w') (hn : ∀ r ∈ F, r ∉ foot g b hs) (hb : ∀ r ∈ F, W.heap.size ≤ r) : FsX W w' g d b D hs :=
  { ext := ht.ext h.ext hb, blk := ht.blk h.blk (fun hc => hn _ hc foot_g), own := (by obtain ⟨n, hn', ho⟩ := h.own; exact ⟨n, hn', ht.map ho (fun hc => hn _ hc foot_b)⟩), map := h.map, fil := fun f hf => (h.fil f hf).turn ht (fun r hr hc => hn r hc (foot_h hf hr)), dis := h.dis, base := h.base, lt := fun r hr => Nat.lt_of_lt_of_le (h.lt r hr) ht.size, hsd := h.hsd, cnt := h.cnt }
theorem own_emptyJ (w : World) (base g : Nat) (hg : w.heap.size = g) (hb : base ≤ g) : (w.alloc (.cells #[] 3)).ownsRow base 3 1 (.slice (some ⟨g, 0, none⟩) 0 0) 0 (ints []) := by
  subst hg
  exact own_emptyI w base hb
theorem results3 {P : Program} {w : World} {fn : Func} {x y z : Tmp} {vx vy vz : Value} (h : fn.results = #[.tmp x, .tmp y, .tmp z]) (tmps : Array Value) (hx : tmps.getD x undef = vx) (hy : tmps.getD y undef = vy) (hz : tmps.getD z undef = vz) : (results fn tmps).run P w = .ok (.tuple #[vx, vy, vz]) w := by
  subst hx hy hz
  simp [results, h]
set_option maxRecDepth 100000 in
set_option maxHeartbeats 4000000 in
theorem call_create (W w : World) (g b : Nat) (d : Dk) (D : DataW Value) (hs : List HF) (nm tg : ByteArray) (B : Option Addr) (bc : Nat) (bs : List UInt8) (n m : Int) (AK : Option Addr) (kc : Nat) (keep : List Int) (h : FsX W w g d b D hs) (hI : DkInv d) (hst : d.steps ≤ 4611686018427387904) (hb : Rd w B bs.length (u8s bs)) (hbl : bs.length ≤ 140737488351232) (hk : Rd w AK keep.length (ints keep)) (hkl : keep.length * 8 ≤ 140737488351232) (hki : ∀ x ∈ keep, IsI64 x) (hn : IsI64 n) (hm : IsI64 m) :
    Calls Try.prog 10 #[.pointer (some ⟨g, 0, none⟩), .agg #[.int .i64 0, .string nm, .string tg, .slice B bs.length bc, .int .i64 n, .int .i64 m, .slice AK keep.length kc]] w (CallPost W w g b hs ((createD d nm).1, [], 0, (createD d nm).2)) := by
  have hx0 : Ext w (w.alloc (.cells #[.int .i64 0, .string nm, .string tg, .slice B bs.length bc, .int .i64 n, .int .i64 m, .slice AK keep.length kc] 34)) := (by repeat (first | with_reducible exact Below.refl _ _ | with_reducible assumption | with_reducible refine ExtD ?_ | with_reducible refine ExtDN ?_ | with_reducible refine ExtA ?_ | (with_reducible refine ExtR ?_ ?_; (first | omega | (dsimp only; omega) | (simp; done) | (simp; omega))) | (with_reducible refine ExtS ?_ ?_; (first | omega | (dsimp only; omega) | (simp; done) | (simp; omega))) | with_reducible refine Ext.tr ?_ (by with_reducible assumption)))
  have hX0 := h.ext_ hx0
  have K := Lib.hid (createK hX0 hI hst nm)
  have HX := Lib.hid h
  clear hX0 h hb hk
  go_enter Try.func10, Try.ntmps10
  go_wp2_with (go_at_call 17; go_loud ((with_reducible refine (K.out).mono ?_); rintro e w1 ⟨rfl, hT⟩))
  refine bodyPost_ret (results3 rfl _ rfl rfl rfl) rfl ?_
  exact call_nil (hT.pre hx0)
set_option maxRecDepth 100000 in
set_option maxHeartbeats 4000000 in
theorem call_sync (W w : World) (g b : Nat) (d : Dk) (D : DataW Value) (hs : List HF) (nm tg : ByteArray) (B : Option Addr) (bc : Nat) (bs : List UInt8) (n m : Int) (AK : Option Addr) (kc : Nat) (keep : List Int) (h : FsX W w g d b D hs) (hI : DkInv d) (hst : d.steps ≤ 4611686018427387904) (hb : Rd w B bs.length (u8s bs)) (hbl : bs.length ≤ 140737488351232) (hk : Rd w AK keep.length (ints keep)) (hkl : keep.length * 8 ≤ 140737488351232) (hki : ∀ x ∈ keep, IsI64 x) (hn : IsI64 n) (hm : IsI64 m) :
    Calls Try.prog 10 #[.pointer (some ⟨g, 0, none⟩), .agg #[.int .i64 2, .string nm, .string tg, .slice B bs.length bc, .int .i64 n, .int .i64 m, .slice AK keep.length kc]] w (CallPost W w g b hs ((syncD d nm).1, [], 0, (syncD d nm).2)) := by
  have hx0 : Ext w (w.alloc (.cells #[.int .i64 2, .string nm, .string tg, .slice B bs.length bc, .int .i64 n, .int .i64 m, .slice AK keep.length kc] 34)) := (by repeat (first | with_reducible exact Below.refl _ _ | with_reducible assumption | with_reducible refine ExtD ?_ | with_reducible refine ExtDN ?_ | with_reducible refine ExtA ?_ | (with_reducible refine ExtR ?_ ?_; (first | omega | (dsimp only; omega) | (simp; done) | (simp; omega))) | (with_reducible refine ExtS ?_ ?_; (first | omega | (dsimp only; omega) | (simp; done) | (simp; omega))) | with_reducible refine Ext.tr ?_ (by with_reducible assumption)))
  have hX0 := h.ext_ hx0
  have K := Lib.hid (syncK hX0 hI hst nm)
  have HX := Lib.hid h
  clear hX0 h hb hk
  go_enter Try.func10, Try.ntmps10
  go_wp2_with (go_at_call 31; go_loud ((with_reducible refine (K.out).mono ?_); rintro e w1 ⟨rfl, hT⟩))
  refine bodyPost_ret (results3 rfl _ rfl rfl rfl) rfl ?_
  exact call_nil (hT.pre hx0)
set_option maxRecDepth 100000 in
set_option maxHeartbeats 4000000 in
theorem call_rename (W w : World) (g b : Nat) (d : Dk) (D : DataW Value) (hs : List HF) (nm tg : ByteArray) (B : Option Addr) (bc : Nat) (bs : List UInt8) (n m : Int) (AK : Option Addr) (kc : Nat) (keep : List Int) (h : FsX W w g d b D hs) (hI : DkInv d) (hst : d.steps ≤ 4611686018427387904) (hb : Rd w B bs.length (u8s bs)) (hbl : bs.length ≤ 140737488351232) (hk : Rd w AK keep.length (ints keep)) (hkl : keep.length * 8 ≤ 140737488351232) (hki : ∀ x ∈ keep, IsI64 x) (hn : IsI64 n) (hm : IsI64 m) :
    Calls Try.prog 10 #[.pointer (some ⟨g, 0, none⟩), .agg #[.int .i64 3, .string nm, .string tg, .slice B bs.length bc, .int .i64 n, .int .i64 m, .slice AK keep.length kc]] w (CallPost W w g b hs ((renameD d nm tg).1, [], 0, (renameD d nm tg).2)) := by
  have hx0 : Ext w (w.alloc (.cells #[.int .i64 3, .string nm, .string tg, .slice B bs.length bc, .int .i64 n, .int .i64 m, .slice AK keep.length kc] 34)) := (by repeat (first | with_reducible exact Below.refl _ _ | with_reducible assumption | with_reducible refine ExtD ?_ | with_reducible refine ExtDN ?_ | with_reducible refine ExtA ?_ | (with_reducible refine ExtR ?_ ?_; (first | omega | (dsimp only; omega) | (simp; done) | (simp; omega))) | (with_reducible refine ExtS ?_ ?_; (first | omega | (dsimp only; omega) | (simp; done) | (simp; omega))) | with_reducible refine Ext.tr ?_ (by with_reducible assumption)))
  have hX0 := h.ext_ hx0
  have K := Lib.hid (renameK hX0 hI hst nm tg)
  have HX := Lib.hid h
  clear hX0 h hb hk
  go_enter Try.func10, Try.ntmps10
  go_wp2_with (go_at_call 32; go_loud ((with_reducible refine (K.out).mono ?_); rintro e w1 ⟨rfl, hT⟩))
  refine bodyPost_ret (results3 rfl _ rfl rfl rfl) rfl ?_
  exact call_nil (hT.pre hx0)
set_option maxRecDepth 100000 in
set_option maxHeartbeats 4000000 in
theorem call_remove (W w : World) (g b : Nat) (d : Dk) (D : DataW Value) (hs : List HF) (nm tg : ByteArray) (B : Option Addr) (bc : Nat) (bs : List UInt8) (n m : Int) (AK : Option Addr) (kc : Nat) (keep : List Int) (h : FsX W w g d b D hs) (hI : DkInv d) (hst : d.steps ≤ 4611686018427387904) (hb : Rd w B bs.length (u8s bs)) (hbl : bs.length ≤ 140737488351232) (hk : Rd w AK keep.length (ints keep)) (hkl : keep.length * 8 ≤ 140737488351232) (hki : ∀ x ∈ keep, IsI64 x) (hn : IsI64 n) (hm : IsI64 m) :
    Calls Try.prog 10 #[.pointer (some ⟨g, 0, none⟩), .agg #[.int .i64 4, .string nm, .string tg, .slice B bs.length bc, .int .i64 n, .int .i64 m, .slice AK keep.length kc]] w (CallPost W w g b hs ((removeD d nm).1, [], 0, (removeD d nm).2)) := by
  have hx0 : Ext w (w.alloc (.cells #[.int .i64 4, .string nm, .string tg, .slice B bs.length bc, .int .i64 n, .int .i64 m, .slice AK keep.length kc] 34)) := (by repeat (first | with_reducible exact Below.refl _ _ | with_reducible assumption | with_reducible refine ExtD ?_ | with_reducible refine ExtDN ?_ | with_reducible refine ExtA ?_ | (with_reducible refine ExtR ?_ ?_; (first | omega | (dsimp only; omega) | (simp; done) | (simp; omega))) | (with_reducible refine ExtS ?_ ?_; (first | omega | (dsimp only; omega) | (simp; done) | (simp; omega))) | with_reducible refine Ext.tr ?_ (by with_reducible assumption)))
  have hX0 := h.ext_ hx0
  have K := Lib.hid (removeK hX0 hI hst nm)
  have HX := Lib.hid h
  clear hX0 h hb hk
  go_enter Try.func10, Try.ntmps10
  go_wp2_with (go_at_call 33; go_loud ((with_reducible refine (K.out).mono ?_); rintro e w1 ⟨rfl, hT⟩))
  refine bodyPost_ret (results3 rfl _ rfl rfl rfl) rfl ?_
  exact call_nil (hT.pre hx0)
set_option maxRecDepth 100000 in
set_option maxHeartbeats 4000000 in
theorem call_cut (W w : World) (g b : Nat) (d : Dk) (D : DataW Value) (hs : List HF) (nm tg : ByteArray) (B : Option Addr) (bc : Nat) (bs : List UInt8) (n m : Int) (AK : Option Addr) (kc : Nat) (keep : List Int) (h : FsX W w g d b D hs) (hI : DkInv d) (hst : d.steps ≤ 4611686018427387904) (hb : Rd w B bs.length (u8s bs)) (hbl : bs.length ≤ 140737488351232) (hk : Rd w AK keep.length (ints keep)) (hkl : keep.length * 8 ≤ 140737488351232) (hki : ∀ x ∈ keep, IsI64 x) (hn : IsI64 n) (hm : IsI64 m) :
    Calls Try.prog 10 #[.pointer (some ⟨g, 0, none⟩), .agg #[.int .i64 5, .string nm, .string tg, .slice B bs.length bc, .int .i64 n, .int .i64 m, .slice AK keep.length kc]] w (CallPost W w g b hs ((cutD d nm n).1, [], 0, (cutD d nm n).2)) := by
  have hx0 : Ext w (w.alloc (.cells #[.int .i64 5, .string nm, .string tg, .slice B bs.length bc, .int .i64 n, .int .i64 m, .slice AK keep.length kc] 34)) := (by repeat (first | with_reducible exact Below.refl _ _ | with_reducible assumption | with_reducible refine ExtD ?_ | with_reducible refine ExtDN ?_ | with_reducible refine ExtA ?_ | (with_reducible refine ExtR ?_ ?_; (first | omega | (dsimp only; omega) | (simp; done) | (simp; omega))) | (with_reducible refine ExtS ?_ ?_; (first | omega | (dsimp only; omega) | (simp; done) | (simp; omega))) | with_reducible refine Ext.tr ?_ (by with_reducible assumption)))
  have hX0 := h.ext_ hx0
  have K := Lib.hid (cutK hX0 hI hst nm n hn)
  have HX := Lib.hid h
  clear hX0 h hb hk
  go_enter Try.func10, Try.ntmps10
  go_wp2_with (go_at_call 34; go_loud ((with_reducible refine (K.out).mono ?_); rintro e w1 ⟨rfl, hT⟩))
  refine bodyPost_ret (results3 rfl _ rfl rfl rfl) rfl ?_
  exact call_nil (hT.pre hx0)
set_option maxRecDepth 100000 in
set_option maxHeartbeats 4000000 in
theorem call_size (W w : World) (g b : Nat) (d : Dk) (D : DataW Value) (hs : List HF) (nm tg : ByteArray) (B : Option Addr) (bc : Nat) (bs : List UInt8) (n m : Int) (AK : Option Addr) (kc : Nat) (keep : List Int) (h : FsX W w g d b D hs) (hI : DkInv d) (hst : d.steps ≤ 4611686018427387904) (hb : Rd w B bs.length (u8s bs)) (hbl : bs.length ≤ 140737488351232) (hk : Rd w AK keep.length (ints keep)) (hkl : keep.length * 8 ≤ 140737488351232) (hki : ∀ x ∈ keep, IsI64 x) (hn : IsI64 n) (hm : IsI64 m) :
    Calls Try.prog 10 #[.pointer (some ⟨g, 0, none⟩), .agg #[.int .i64 7, .string nm, .string tg, .slice B bs.length bc, .int .i64 n, .int .i64 m, .slice AK keep.length kc]] w (CallPost W w g b hs (d, [], (sizeD d nm).1, (sizeD d nm).2)) := by
  have hx0 : Ext w (w.alloc (.cells #[.int .i64 7, .string nm, .string tg, .slice B bs.length bc, .int .i64 n, .int .i64 m, .slice AK keep.length kc] 34)) := (by repeat (first | with_reducible exact Below.refl _ _ | with_reducible assumption | with_reducible refine ExtD ?_ | with_reducible refine ExtDN ?_ | with_reducible refine ExtA ?_ | (with_reducible refine ExtR ?_ ?_; (first | omega | (dsimp only; omega) | (simp; done) | (simp; omega))) | (with_reducible refine ExtS ?_ ?_; (first | omega | (dsimp only; omega) | (simp; done) | (simp; omega))) | with_reducible refine Ext.tr ?_ (by with_reducible assumption)))
  have hX0 := h.ext_ hx0
  have K := Lib.hid (sizeK hX0 nm)
  have HX := Lib.hid h
  clear hX0 h hb hk
  go_enter Try.func10, Try.ntmps10
  go_wp2_with (go_at_call 36; go_loud ((with_reducible refine (K.out).mono ?_); rintro e w1 ⟨rfl, hx1⟩))
  refine bodyPost_ret (results3 rfl _ rfl rfl rfl) rfl ?_
  exact call_nil (HX.out.ext_to (hx0.tr hx1))
set_option maxRecDepth 100000 in
set_option maxHeartbeats 4000000 in
theorem call_read (W w : World) (g b : Nat) (d : Dk) (D : DataW Value) (hs : List HF) (nm tg : ByteArray) (B : Option Addr) (bc : Nat) (bs : List UInt8) (n m : Int) (AK : Option Addr) (kc : Nat) (keep : List Int) (h : FsX W w g d b D hs) (hI : DkInv d) (hst : d.steps ≤ 4611686018427387904) (hb : Rd w B bs.length (u8s bs)) (hbl : bs.length ≤ 140737488351232) (hk : Rd w AK keep.length (ints keep)) (hkl : keep.length * 8 ≤ 140737488351232) (hki : ∀ x ∈ keep, IsI64 x) (hn : IsI64 n) (hm : IsI64 m) :
    Calls Try.prog 10 #[.pointer (some ⟨g, 0, none⟩), .agg #[.int .i64 6, .string nm, .string tg, .slice B bs.length bc, .int .i64 n, .int .i64 m, .slice AK keep.length kc]] w (CallPost W w g b hs ((readD d nm n m).1, (readD d nm n m).2.1, 0, (readD d nm n m).2.2)) := by
  have hx0 : Ext w (w.alloc (.cells #[.int .i64 6, .string nm, .string tg, .slice B bs.length bc, .int .i64 n, .int .i64 m, .slice AK keep.length kc] 34)) := (by repeat (first | with_reducible exact Below.refl _ _ | with_reducible assumption | with_reducible refine ExtD ?_ | with_reducible refine ExtDN ?_ | with_reducible refine ExtA ?_ | (with_reducible refine ExtR ?_ ?_; (first | omega | (dsimp only; omega) | (simp; done) | (simp; omega))) | (with_reducible refine ExtS ?_ ?_; (first | omega | (dsimp only; omega) | (simp; done) | (simp; omega))) | with_reducible refine Ext.tr ?_ (by with_reducible assumption)))
  have hX0 := h.ext_ hx0
  have K := Lib.hid (readK hX0 hI nm n m hn hm)
  unfold GaveB at K
  obtain ⟨d', hd'⟩ : ∃ d', d' = (readD d nm n m).1 := ⟨_, rfl⟩
  obtain ⟨l, hl⟩ : ∃ l, l = (readD d nm n m).2.1 := ⟨_, rfl⟩
  obtain ⟨E, hE⟩ : ∃ E, E = (readD d nm n m).2.2 := ⟨_, rfl⟩
  rw [← hd', ← hl, ← hE] at K ⊢
  obtain ⟨ln, hln⟩ : ∃ ln, ln = l.length := ⟨_, rfl⟩
  rw [← hln] at K
  have Hln := Lib.hid hln
  clear hX0 h hb hk hd' hl hE hln
  go_enter Try.func10, Try.ntmps10
  go_wp2_with (go_at_call 35; go_loud ((with_reducible refine (K.out).mono ?_); rintro e w1 ⟨A1, c1, rfl, hT, hown1⟩))
  refine bodyPost_ret (results3 rfl _ rfl rfl rfl) rfl ?_
  have hl := Hln.out
  subst hl
  exact ⟨A1, c1, rfl, hT.pre hx0, own_base hown1 hx0.size⟩
set_option maxRecDepth 100000 in
set_option maxHeartbeats 4000000 in
theorem call_fuse (W w : World) (g b : Nat) (d : Dk) (D : DataW Value) (hs : List HF) (nm tg : ByteArray) (B : Option Addr) (bc : Nat) (bs : List UInt8) (n m : Int) (AK : Option Addr) (kc : Nat) (keep : List Int) (h : FsX W w g d b D hs) (hI : DkInv d) (hst : d.steps ≤ 4611686018427387904) (hb : Rd w B bs.length (u8s bs)) (hbl : bs.length ≤ 140737488351232) (hk : Rd w AK keep.length (ints keep)) (hkl : keep.length * 8 ≤ 140737488351232) (hki : ∀ x ∈ keep, IsI64 x) (hn : IsI64 n) (hm : IsI64 m) :
    Calls Try.prog 10 #[.pointer (some ⟨g, 0, none⟩), .agg #[.int .i64 9, .string nm, .string tg, .slice B bs.length bc, .int .i64 n, .int .i64 m, .slice AK keep.length kc]] w (CallPost W w g b hs ({ d with fuse := max 0 n }, [], 0, 0)) := by
  have hx0 : Ext w (w.alloc (.cells #[.int .i64 9, .string nm, .string tg, .slice B bs.length bc, .int .i64 n, .int .i64 m, .slice AK keep.length kc] 34)) := (by repeat (first | with_reducible exact Below.refl _ _ | with_reducible assumption | with_reducible refine ExtD ?_ | with_reducible refine ExtDN ?_ | with_reducible refine ExtA ?_ | (with_reducible refine ExtR ?_ ?_; (first | omega | (dsimp only; omega) | (simp; done) | (simp; omega))) | (with_reducible refine ExtS ?_ ?_; (first | omega | (dsimp only; omega) | (simp; done) | (simp; omega))) | with_reducible refine Ext.tr ?_ (by with_reducible assumption)))
  have hX0 := h.ext_ hx0
  have K := Lib.hid (fuseK hX0 n)
  clear hX0 h hb hk
  go_enter Try.func10, Try.ntmps10
  go_wp2_with (go_at_call 38; go_loud ((with_reducible refine (K.out).mono ?_); rintro e w1 ⟨rfl, hT⟩))
  refine bodyPost_ret (results3 rfl _ rfl rfl rfl) rfl ?_
  exact call_nil (hT.pre hx0)
set_option maxRecDepth 100000 in
set_option maxHeartbeats 4000000 in
theorem call_restart (W w : World) (g b : Nat) (d : Dk) (D : DataW Value) (hs : List HF) (nm tg : ByteArray) (B : Option Addr) (bc : Nat) (bs : List UInt8) (n m : Int) (AK : Option Addr) (kc : Nat) (keep : List Int) (h : FsX W w g d b D hs) (hI : DkInv d) (hst : d.steps ≤ 4611686018427387904) (hb : Rd w B bs.length (u8s bs)) (hbl : bs.length ≤ 140737488351232) (hk : Rd w AK keep.length (ints keep)) (hkl : keep.length * 8 ≤ 140737488351232) (hki : ∀ x ∈ keep, IsI64 x) (hn : IsI64 n) (hm : IsI64 m) :
    Calls Try.prog 10 #[.pointer (some ⟨g, 0, none⟩), .agg #[.int .i64 8, .string nm, .string tg, .slice B bs.length bc, .int .i64 n, .int .i64 m, .slice AK keep.length kc]] w (CallPost W w g b hs (restartD d keep, [], 0, 0)) := by
  have hx0 : Ext w (w.alloc (.cells #[.int .i64 8, .string nm, .string tg, .slice B bs.length bc, .int .i64 n, .int .i64 m, .slice AK keep.length kc] 34)) := (by repeat (first | with_reducible exact Below.refl _ _ | with_reducible assumption | with_reducible refine ExtD ?_ | with_reducible refine ExtDN ?_ | with_reducible refine ExtA ?_ | (with_reducible refine ExtR ?_ ?_; (first | omega | (dsimp only; omega) | (simp; done) | (simp; omega))) | (with_reducible refine ExtS ?_ ?_; (first | omega | (dsimp only; omega) | (simp; done) | (simp; omega))) | with_reducible refine Ext.tr ?_ (by with_reducible assumption)))
  have hX0 := h.ext_ hx0
  have K := Lib.hid fun w1 A1 c1 (h1 : FsX W w1 g d b D hs) hr => restartK h1 hI A1 keep.length c1 keep (by omega) hr hki
  have HX := Lib.hid hX0
  have Hk := Lib.hid (hk.ext hx0)
  clear hX0 h hb hk
  obtain ⟨nk, hnk⟩ : ∃ nk, nk = keep.length := ⟨_, rfl⟩
  rw [← hnk] at K Hk hkl hx0 HX ⊢
  have Hnk := Lib.hid hnk
  clear hnk
  go_enter Try.func10, Try.ntmps10
  go_wp2_with (first
    | (at_builtin; go_loud (refine wpI_append (l := []) rfl (.tmp 102) (.tmp 104) rfl (w.heap.size + 1) rfl (own_emptyJ _ _ (w.heap.size + 1) (by simp) (Nat.le_refl _)) (by simp) rfl (Hk.out.ext (ExtA (Ext.rfl' _))) nk keep (Nat.zero_add _) rfl (by omega) ?_; intro A2 c2 w2 hown2 hg2; have hx2 := (ExtA (Ext.rfl' _)).grown hg2 (fun r hr => by simp [Value.ownBlock] at hr; simp; omega); have hX2 := HX.out.ext_ hx2))
    | (go_at_call 37; go_loud ((with_reducible refine (K.out _ _ _ hX2 (fun w' ht => rdI_turn hown2 ht (fun r hr hc => by have h1 := (hown2.lt r hr).1; have h2 := HX.out.lt r hc; simp at h2; omega))).mono ?_); rintro e w3 ⟨rfl, hT⟩)))
  refine bodyPost_ret (results3 rfl _ rfl rfl rfl) rfl ?_
  exact call_nil (hT.pre (hx0.tr hx2))
set_option maxRecDepth 100000 in
set_option maxHeartbeats 4000000 in
theorem call_none (W w : World) (g b : Nat) (d : Dk) (D : DataW Value) (hs : List HF) (nm tg : ByteArray) (B : Option Addr) (bc : Nat) (bs : List UInt8) (k n m : Int) (AK : Option Addr) (kc : Nat) (keep : List Int) (h : FsX W w g d b D hs) (hI : DkInv d) (hst : d.steps ≤ 4611686018427387904) (hb : Rd w B bs.length (u8s bs)) (hbl : bs.length ≤ 140737488351232) (hk : Rd w AK keep.length (ints keep)) (hkl : keep.length * 8 ≤ 140737488351232) (hki : ∀ x ∈ keep, IsI64 x) (hn : IsI64 n) (hm : IsI64 m) (hk0 : k < 0 ∨ 9 < k) :
    Calls Try.prog 10 #[.pointer (some ⟨g, 0, none⟩), .agg #[.int .i64 k, .string nm, .string tg, .slice B bs.length bc, .int .i64 n, .int .i64 m, .slice AK keep.length kc]] w (CallPost W w g b hs (d, [], 0, 0)) := by
  have hx0 : Ext w (w.alloc (.cells #[.int .i64 k, .string nm, .string tg, .slice B bs.length bc, .int .i64 n, .int .i64 m, .slice AK keep.length kc] 34)) := (by repeat (first | with_reducible exact Below.refl _ _ | with_reducible assumption | with_reducible refine ExtD ?_ | with_reducible refine ExtDN ?_ | with_reducible refine ExtA ?_ | (with_reducible refine ExtR ?_ ?_; (first | omega | (dsimp only; omega) | (simp; done) | (simp; omega))) | (with_reducible refine ExtS ?_ ?_; (first | omega | (dsimp only; omega) | (simp; done) | (simp; omega))) | with_reducible refine Ext.tr ?_ (by with_reducible assumption)))
  have hX0 := h.ext_ hx0
  have t0 : (k == 0) = false := by simp; omega
  have t1 : (k == 1) = false := by simp; omega
  have t2 : (k == 2) = false := by simp; omega
  have t3 : (k == 3) = false := by simp; omega
  have t4 : (k == 4) = false := by simp; omega
  have t5 : (k == 5) = false := by simp; omega
  have t6 : (k == 6) = false := by simp; omega
  have t7 : (k == 7) = false := by simp; omega
  have t8 : (k == 8) = false := by simp; omega
  have t9 : (k == 9) = false := by simp; omega
  have HX := Lib.hid h
  clear hX0 h hb hk
  go_enter Try.func10, Try.ntmps10
  go_wp2_with fail
  refine bodyPost_ret (results3 rfl _ rfl rfl rfl) rfl ?_
  exact call_nil (HX.out.ext_to hx0)
def XorR (W w w8 : World) (g b : Nat) (d : Dk) (D : DataW Value) (hs : List HF) (A : Option Addr) (c : Nat) (bs : List UInt8) (c34 : Value) (wr : World) : Prop :=
  ∃ (k : Nat) (xs : List Value), c34 = .int .i64 k ∧ k ≤ bs.length ∧ FsX W wr g d b D hs ∧ Turn ((Value.slice A bs.length c).ownBlock.toList) w8 wr ∧ wr.ownsRow w.heap.size 5 1 (.slice A bs.length c) bs.length xs ∧ ∀ j, k ≤ j → xs[j]? = (u8s bs)[j]?
theorem own_frozen {w : World} {base g n c : Nat} {e : TypeId} {xs : List Value} (h : w.ownsRow base e 1 (.slice (some ⟨g, 0, none⟩) n c) n xs) {k : Nat} : w.frozen? ⟨g, k, none⟩ = false := by
  rcases h.2 with ⟨hv, _⟩ | ⟨g2, cap, cur, hv, h1, h2, _⟩
  · cases hv
  · injection hv with e1 _ _
    injection e1 with e1
    injection e1 with e1
    subst e1
    exact Blk.frozen h2 k
theorem own_set {w : World} {base g n c : Nat} {e : TypeId} {xs : List Value} {v : Value} (h : w.ownsRow base e 1 (.slice (some ⟨g, 0, none⟩) n c) n xs) (k : Nat) (hk : k < n) : (w.setCell ⟨g, k, none⟩ v).ownsRow base e 1 (.slice (some ⟨g, 0, none⟩) n c) n (xs.set k v) := by
  refine ⟨by rw [List.length_set]; exact h.1, ?_⟩
  rcases h.2 with ⟨hv, _⟩ | ⟨g2, cap, cur, hv, h1, h2, h3, h4, h5, h6⟩
  · cases hv
  · injection hv with e1 e2 e3
    injection e1 with e1
    injection e1 with e1
    subst e1 e3
    refine .inr ⟨g, c, cur.setIfInBounds k v, rfl, h1, BlkS h2, h3, h4, by simpa using h5, ?_⟩
    rw [Array.toList_setIfInBounds, List.take_set, h6]
set_option maxRecDepth 100000 in
set_option maxHeartbeats 4000000 in
theorem call_append (W w : World) (g b : Nat) (d : Dk) (D : DataW Value) (hs : List HF) (nm tg : ByteArray) (B : Option Addr) (bc : Nat) (bs : List UInt8) (n m : Int) (AK : Option Addr) (kc : Nat) (keep : List Int) (h : FsX W w g d b D hs) (hI : DkInv d) (hst : d.steps ≤ 4611686018427387904) (hb : Rd w B bs.length (u8s bs)) (hbl : bs.length ≤ 140737488351232) (hk : Rd w AK keep.length (ints keep)) (hkl : keep.length * 8 ≤ 140737488351232) (hki : ∀ x ∈ keep, IsI64 x) (hn : IsI64 n) (hm : IsI64 m) :
    Calls Try.prog 10 #[.pointer (some ⟨g, 0, none⟩), .agg #[.int .i64 1, .string nm, .string tg, .slice B bs.length bc, .int .i64 n, .int .i64 m, .slice AK keep.length kc]] w (CallPost W w g b hs ((appendD d nm bs).1, [], 0, (appendD d nm bs).2)) := by
  have hx0 : Ext w (w.alloc (.cells #[.int .i64 1, .string nm, .string tg, .slice B bs.length bc, .int .i64 n, .int .i64 m, .slice AK keep.length kc] 34)) := (by repeat (first | with_reducible exact Below.refl _ _ | with_reducible assumption | with_reducible refine ExtD ?_ | with_reducible refine ExtDN ?_ | with_reducible refine ExtA ?_ | (with_reducible refine ExtR ?_ ?_; (first | omega | (dsimp only; omega) | (simp; done) | (simp; omega))) | (with_reducible refine ExtS ?_ ?_; (first | omega | (dsimp only; omega) | (simp; done) | (simp; omega))) | with_reducible refine Ext.tr ?_ (by with_reducible assumption)))
  have hX0 := h.ext_ hx0
  have KC := Lib.hid (copy_any B bs.length bc bs _ (hb.ext hx0) (by omega))
  have K := Lib.hid fun w1 B1 c1 (h1 : FsX W w1 g d b D hs) hr => appendK h1 hI hst nm B1 bs.length c1 bs rfl (by omega) hr
  have HX := Lib.hid hX0
  have hlt := h.ext.size
  unfold NewB at KC
  clear hX0 h hb hk
  go_enter Try.func10, Try.ntmps10
  go_wp2_with (first
    | (go_at_call 28; go_loud ((with_reducible refine (KC.out).mono ?_); rintro e w1 ⟨A1, c1, rfl, hx1, hown1⟩; have hX1 := HX.out.ext_ hx1; have z1 : w1.cell? ⟨w.heap.size, 1, none⟩ = some (.string nm) := hx1.cell (by simp)))
    | (go_at_call 18; go_loud ((with_reducible refine (K.out _ _ _ hX1 (fun w' ht => rd_turn hown1 ht (own_off HX.out hown1))).mono ?_); rintro e w2 ⟨rfl, D2, hs2, hX2, ht2, hf2⟩)))
  have hO := (show Off w1 (foot g b hs) _ _ _ _ _ _ from ⟨hown1, own_off HX.out hown1⟩).to ht2 hf2
  have hown2 : w2.ownsRow w.heap.size 5 1 (.slice A1 bs.length c1) bs.length (u8s bs) := own_base hO.1 (by simp)
  have HT := Lib.hid (((hx0.tr hx1).turn (foot g b hs)).tr ht2)
  have HF := Lib.hid (fun r (hr : r ∈ foot g b hs2) => (hf2 r hr).imp id fun h => Nat.le_trans (hx0.tr hx1).size h)
  have HO2 := Lib.hid hO.2
  have HX2 := Lib.hid hX2
  have Hown2 := Lib.hid hown2
  clear hX2 hown2 hO hown1 hX1 ht2 hf2
  obtain ⟨nb, hnb⟩ : ∃ nb, nb = bs.length := ⟨_, rfl⟩
  have Hnb := Lib.hid hnb
  rw [← hnb] at hbl
  simp only [← hnb]
  go_loopw [34] (fun c34 wr => XorR W w w2 g b (appendD d nm bs).1 D2 hs2 A1 c1 bs c34 wr) (fun c34 _ => nb - (intOf c34).toNat)
  case atStart => exact ⟨0, u8s bs, rfl, by omega, HX2.out, Turn.refl _ _, Hown2.out, fun _ _ => rfl⟩
  case round =>
    obtain ⟨k, xs, rfl, hkn, hX, ht, hown, hxs⟩ := hrel
    rw [← hnb] at hkn
    by_cases hlt2 : k < nb
    · obtain ⟨gB, rfl⟩ : ∃ gB, A1 = some ⟨gB, 0, none⟩ := by
        rcases hown.2 with ⟨hv, _⟩ | ⟨g2, cap, cur, hv, _⟩
        · injection hv with _ e2 _; omega
        · injection hv with e1 _ _; exact ⟨g2, e1⟩
      have hl := List.getElem?_eq_getElem (show k < bs.length by omega)
      have ek := hown.cells (g := gB) rfl k (.int .u8 ((bs[k]'(by omega)).toNat : Nat)) (by rw [hxs k (Nat.le_refl _)]; simp [u8s, hl])
      rw [addr_add, Nat.zero_add] at ek
      have hfz := own_frozen hown (k := k)
      have hx8 : ((bs[k]'(by omega)).toNat : Nat) < 256 := UInt8.toNat_lt _
      have HXr := Lib.hid hX
      have Hown := Lib.hid hown
      have Hxs := Lib.hid hxs
      have Hht := Lib.hid ht
      generalize (bs[k]'(by omega)).toNat = x at *
      clear hX hown hxs ht hl
      go_wp2_with fail
      go_roundw
      case rel =>
        refine ⟨k + 1, _, by go_num, by rw [← hnb]; omega, HXr.out.keep (F := [gB]) (Turn.cell (by simp)) (fun r hr => by simp at hr; subst hr; exact HO2.out _ rfl) (fun r hr => by simp at hr; subst hr; exact Nat.le_trans hlt (Hown.out.lt _ rfl).1), Hht.out.tr (Turn.cell (by simp [Value.ownBlock])), own_set Hown.out k (by omega), fun j hj => ?_⟩
        rw [List.getElem?_set_ne (by omega)]
        exact Hxs.out j (by omega)
      case measure => simp [intOf]; omega
    · obtain rfl : k = nb := by omega
      have HXr := Lib.hid hX
      have Hht := Lib.hid ht
      have Hlt := Lib.hid fun r hr => (hown.lt r hr).1
      clear hX hown hxs ht
      go_wp2_with fail
      refine bodyPost_ret (results3 rfl _ rfl rfl rfl) rfl ?_
      refine call_nil ?_
      refine ⟨D2, hs2, HXr.out, HT.out.trans Hht.out (fun r hr => ?_), HF.out⟩
      simp at hr
      exact .inr (Hlt.out r hr)
theorem call_any (W w : World) (g b : Nat) (d : Dk) (D : DataW Value) (hs : List HF) (o : HO) (h : FsX W w g d b D hs) (hI : DkInv d) (hst : d.steps ≤ 4611686018427387904) (ho : OpOk w o) :
    Calls Try.prog 10 #[.pointer (some ⟨g, 0, none⟩), .agg (opcells o)] w (CallPost W w g b hs (callD d o.1)) := by
  unfold opcells
  by_cases h0 : o.1.k = 0
  · unfold callD; rw [if_pos h0, h0]
    exact call_create W w g b d D hs o.1.name o.1.tgt o.2.1.1 o.2.1.2 o.1.b o.1.n o.1.m o.2.2.1 o.2.2.2 o.1.keep h hI hst ho.1.1 ho.1.2 ho.2.1.1 ho.2.1.2.1 ho.2.1.2.2 ho.2.2.2.1 ho.2.2.2.2
  by_cases h1 : o.1.k = 1
  · unfold callD; rw [if_neg h0, if_pos h1, h1]
    exact call_append W w g b d D hs o.1.name o.1.tgt o.2.1.1 o.2.1.2 o.1.b o.1.n o.1.m o.2.2.1 o.2.2.2 o.1.keep h hI hst ho.1.1 ho.1.2 ho.2.1.1 ho.2.1.2.1 ho.2.1.2.2 ho.2.2.2.1 ho.2.2.2.2
  by_cases h2 : o.1.k = 2
  · unfold callD; rw [if_neg h0, if_neg h1, if_pos h2, h2]
    exact call_sync W w g b d D hs o.1.name o.1.tgt o.2.1.1 o.2.1.2 o.1.b o.1.n o.1.m o.2.2.1 o.2.2.2 o.1.keep h hI hst ho.1.1 ho.1.2 ho.2.1.1 ho.2.1.2.1 ho.2.1.2.2 ho.2.2.2.1 ho.2.2.2.2
  by_cases h3 : o.1.k = 3
  · unfold callD; rw [if_neg h0, if_neg h1, if_neg h2, if_pos h3, h3]
    exact call_rename W w g b d D hs o.1.name o.1.tgt o.2.1.1 o.2.1.2 o.1.b o.1.n o.1.m o.2.2.1 o.2.2.2 o.1.keep h hI hst ho.1.1 ho.1.2 ho.2.1.1 ho.2.1.2.1 ho.2.1.2.2 ho.2.2.2.1 ho.2.2.2.2
  by_cases h4 : o.1.k = 4
  · unfold callD; rw [if_neg h0, if_neg h1, if_neg h2, if_neg h3, if_pos h4, h4]
    exact call_remove W w g b d D hs o.1.name o.1.tgt o.2.1.1 o.2.1.2 o.1.b o.1.n o.1.m o.2.2.1 o.2.2.2 o.1.keep h hI hst ho.1.1 ho.1.2 ho.2.1.1 ho.2.1.2.1 ho.2.1.2.2 ho.2.2.2.1 ho.2.2.2.2
  by_cases h5 : o.1.k = 5
  · unfold callD; rw [if_neg h0, if_neg h1, if_neg h2, if_neg h3, if_neg h4, if_pos h5, h5]
    exact call_cut W w g b d D hs o.1.name o.1.tgt o.2.1.1 o.2.1.2 o.1.b o.1.n o.1.m o.2.2.1 o.2.2.2 o.1.keep h hI hst ho.1.1 ho.1.2 ho.2.1.1 ho.2.1.2.1 ho.2.1.2.2 ho.2.2.2.1 ho.2.2.2.2
  by_cases h6 : o.1.k = 6
  · unfold callD; rw [if_neg h0, if_neg h1, if_neg h2, if_neg h3, if_neg h4, if_neg h5, if_pos h6, h6]
    exact call_read W w g b d D hs o.1.name o.1.tgt o.2.1.1 o.2.1.2 o.1.b o.1.n o.1.m o.2.2.1 o.2.2.2 o.1.keep h hI hst ho.1.1 ho.1.2 ho.2.1.1 ho.2.1.2.1 ho.2.1.2.2 ho.2.2.2.1 ho.2.2.2.2
  by_cases h7 : o.1.k = 7
  · unfold callD; rw [if_neg h0, if_neg h1, if_neg h2, if_neg h3, if_neg h4, if_neg h5, if_neg h6, if_pos h7, h7]
    exact call_size W w g b d D hs o.1.name o.1.tgt o.2.1.1 o.2.1.2 o.1.b o.1.n o.1.m o.2.2.1 o.2.2.2 o.1.keep h hI hst ho.1.1 ho.1.2 ho.2.1.1 ho.2.1.2.1 ho.2.1.2.2 ho.2.2.2.1 ho.2.2.2.2
  by_cases h8 : o.1.k = 8
  · unfold callD; rw [if_neg h0, if_neg h1, if_neg h2, if_neg h3, if_neg h4, if_neg h5, if_neg h6, if_neg h7, if_pos h8, h8]
    exact call_restart W w g b d D hs o.1.name o.1.tgt o.2.1.1 o.2.1.2 o.1.b o.1.n o.1.m o.2.2.1 o.2.2.2 o.1.keep h hI hst ho.1.1 ho.1.2 ho.2.1.1 ho.2.1.2.1 ho.2.1.2.2 ho.2.2.2.1 ho.2.2.2.2
  by_cases h9 : o.1.k = 9
  · unfold callD; rw [if_neg h0, if_neg h1, if_neg h2, if_neg h3, if_neg h4, if_neg h5, if_neg h6, if_neg h7, if_neg h8, if_pos h9, h9]
    exact call_fuse W w g b d D hs o.1.name o.1.tgt o.2.1.1 o.2.1.2 o.1.b o.1.n o.1.m o.2.2.1 o.2.2.2 o.1.keep h hI hst ho.1.1 ho.1.2 ho.2.1.1 ho.2.1.2.1 ho.2.1.2.2 ho.2.2.2.1 ho.2.2.2.2
  have e : callD d o.1 = (d, [], 0, 0) := by unfold callD; rw [if_neg h0, if_neg h1, if_neg h2, if_neg h3, if_neg h4, if_neg h5, if_neg h6, if_neg h7, if_neg h8, if_neg h9]
  rw [e]
  exact call_none W w g b d D hs o.1.name o.1.tgt o.2.1.1 o.2.1.2 o.1.b o.1.k o.1.n o.1.m o.2.2.1 o.2.2.2 o.1.keep h hI hst ho.1.1 ho.1.2 ho.2.1.1 ho.2.1.2.1 ho.2.1.2.2 ho.2.2.2.1 ho.2.2.2.2 (by omega)
end Go.Proofs.Ytdoaniimfhpjhaa
