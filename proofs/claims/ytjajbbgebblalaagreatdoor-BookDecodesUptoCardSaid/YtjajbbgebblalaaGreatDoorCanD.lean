/-
  The walk of canon.Decode.
-/
import Derived.Test.YtjajbbgebblalaaGreatDoorShrT
import Derived.Test.YtjajbbgebblalaaGreatDoorCanL
import Derived.Test.YtjajbbgebblalaaGreatDoorRdW
import Derived.Test.YtjajbbgebblalaaGreatDoorOrdW
import Derived.Test.YtjajbbgebblalaaGreatDoorOrdS
import Derived.Deep.RegionHeld3
namespace Go.Proofs.YtjajbbgebblalaaGreatDoor
open Go.RowKit
set_option linter.unusedVariables false
set_option linter.unusedSimpArgs false
set_option maxRecDepth 100000 in
set_option maxHeartbeats 2000000 in
theorem cnum_any {W0 w : World} {g b rp : Nat} {fs : List Fld} {K t : Int} (h : RS W0 w g b fs K) (hr : rising 0 fs) (hk : IsK K) (h11 : K < 10) (ht : t = K + 1) (hc : w.cell? ⟨rp, 0, none⟩ = some (.pointer (some ⟨g, 0, none⟩))) :
    Calls Tryz.prog 133 #[.int .i64 t, .pointer (some ⟨rp, 0, none⟩)] w fun e w' => e = .returned (.int .i64 (numI fs t)) ∧ Turn [g, b] w w' ∧ RS W0 w' g b fs t := by
  have K1 := Lib.hid (rs_num h hr hk h11 ht)
  have K2 := Lib.hid fun W => small_any (cnumAt fs t) W
  unfold numI
  clear h hr hk h11 ht
  generalize cnumAt fs t = u at *
  go_enter Tryz.func133, Tryz.ntmps133
  go_wp2_with (first
    | (go_at_call 135; (with_reducible refine (K1.out).mono ?_); rintro e w1 ⟨rfl, ht1, hR1⟩; have T1 := Lib.hid ht1; have R1 := Lib.hid hR1; clear ht1 hR1)
    | (go_at_call 134; (with_reducible refine (K2.out _).mono ?_); rintro e w2 ⟨rfl, hx2⟩))
  go_ret
  exact ⟨rfl, T1.out.tr (hx2.turn _), R1.out.up hx2⟩
theorem textAt_len {fs : List Fld} (hf : faults 0 fs = 0) (t : Int) : (textAt fs t).length ≤ 200 := by
  unfold textAt
  split
  · rename_i f h
    split
    · rename_i h1
      have key : ∀ (fs : List Fld) (last : Int), faults last fs = 0 → ∀ f ∈ fs, f.text = true → f.bytes.length ≤ 200 := by
        intro fs
        induction fs with
        | nil => intro _ _ f hf; cases hf
        | cons g r ih =>
          intro last h f hf
          simp only [faults] at h
          split at h
          · omega
          · rcases List.mem_cons.1 hf with rfl | hf
            · exact fun ht => ((fault_ok (by omega : fault f last = 0)).2.2.2.1 ht).2
            · exact ih g.tag h f hf
      exact key fs 0 hf f (find_tag h).1 h1
    · simp
  · simp
theorem RS.off {W0 w : World} {g b x : Nat} {fs : List Fld} {K : Int} {t : TypeId} {cs : Array Value} (h : RS W0 w g b fs K) (hb : Blk w x t cs) (ht : t ≠ 263) : x ∉ [g, b] := by
  obtain ⟨hs, D, h1, h2, h3⟩ := h
  intro hc
  rcases List.mem_cons.1 hc with rfl | hc
  · have := h2.blk
    unfold RdB Blk at *
    rw [hb] at this
    injection this with this
    injection this with _ h4 _
    exact ht h4
  · rw [List.mem_singleton.1 hc] at hb
    obtain ⟨q, _, es, clock, hm, _⟩ := h2.own
    unfold Blk at hb
    rw [hb] at hm
    cases hm
theorem RS.offRow {W0 w : World} {g b : Nat} {fs : List Fld} {K : Int} {base n s : Nat} {e : TypeId} {v : Value} {xs : List Value} (h : RS W0 w g b fs K) (ho : w.ownsRow base e s v n xs) (ht : e ≠ 263) : ∀ r, v.ownBlock = some r → r ∉ [g, b] := by
  obtain ⟨hs, D, h1, h2, h3⟩ := h
  intro r hr hc
  rcases List.mem_cons.1 hc with rfl | hc
  · exact blk_off ho h2.blk (fun h => ht h.symm) hr
  · rw [List.mem_singleton.1 hc] at hr
    exact own_notmap h2.own ho hr
/-- The result's cell (zero) and the reader's variable. -/
structure CdK (q rp g : Nat) (w' : World) : Prop where
  z : Blk w' q 77 (stcells zeroSt none 0)
  r : Blk w' rp 222 #[.pointer (some ⟨g, 0, none⟩)]
theorem CdK.turn {q rp g b : Nat} {a c : World} (h : CdK q rp g a) (ht : Turn [g, b] a c) (h1 : q ∉ [g, b] ∧ rp ∉ [g, b]) : CdK q rp g c := ⟨ht.blk h.z h1.1, ht.blk h.r h1.2⟩
theorem CdK.ext {q rp g : Nat} {a c : World} (h : CdK q rp g a) (hx : Ext a c) : CdK q rp g c := ⟨BlkE h.z hx, BlkE h.r hx⟩
theorem RS.turn {F : List Nat} {W0 w w' : World} {g b : Nat} {fs : List Fld} {K : Int} (h : RS W0 w g b fs K) (ht : Turn F w w') (hF : ∀ r ∈ F, W0.heap.size ≤ r ∧ ∃ t cs, Blk w r t cs ∧ t ≠ 263 ∧ t ≠ 5) : RS W0 w' g b fs K := by
  have hoff : ∀ r ∈ F, r ∉ [g, b] := fun r hr => by
    obtain ⟨_, t, cs, hb, h1, _⟩ := hF r hr
    exact h.off hb h1
  obtain ⟨hs, D, h1, h2, h3⟩ := h
  refine ⟨hs, D, h1, ?_, ht.ext h3 fun r hr => (hF r hr).1⟩
  exact
    { blk := ht.blk h2.blk (fun hc => hoff _ hc (by simp))
      own := h2.own.turn ht (fun hc => hoff _ hc (by simp))
      map := h2.map
      wf := h2.wf
      txt := fun x hx => ht.own (h2.txt x hx) fun r hr hc => by
        obtain ⟨_, t, cs, hb, _, h8⟩ := hF r hc
        exact blk_off (h2.txt x hx) hb h8 hr
      ne := h2.ne
      lo := h2.lo }
theorem s12_one (o s p u t : Int) (A : Option Addr) (n c : Nat) (pd rf ev rd sm : Int) (who : ByteArray) : ∀ v ∈ (#[.int .i64 o, .int .i64 s, .int .i64 p, .int .i64 u, .int .i64 t, .slice A n c, .int .i64 pd, .int .i64 rf, .int .i64 ev, .int .i64 rd, .int .i64 sm, .string who] : Array Value).toList, v.oneCell' = true := by
  intro v hv; simp at hv; rcases hv with rfl | rfl | rfl | rfl | rfl | rfl | rfl | rfl | rfl | rfl | rfl | rfl <;> rfl
/-- A new block of a zero state. -/
def NewZ (W0 w : World) (gs : Nat) : Prop := W0.heap.size ≤ gs ∧ Blk w gs 77 (stcells zeroSt none 0)
theorem NewZ.mk {W0 w : World} {g b : Nat} {fs : List Fld} {K : Int} (h : RS W0 w g b fs K) : NewZ W0 (w.alloc (.cells (stcells zeroSt none 0) 77)) w.heap.size := ⟨h.x.size, BlkN rfl⟩
theorem NewZ.next {W0 a c : World} {gs g b : Nat} {fs : List Fld} {K : Int} (h : RS W0 a g b fs K) (ht : Turn [g, b] a c) (hn : NewZ W0 a gs) : NewZ W0 c gs := ⟨hn.1, ht.blk hn.2 (h.off hn.2 (by decide))⟩
theorem step_storeS {ops : Array Oper} {o : Oper} {a : Act} {w : World} {K : Act → World → Prop} {Q : Exit → Act → World → Prop} {E : Prop} (hgd : o.guard = none) (d : Option Tmp) (hd : o.dst = d) (x y : Operand) (ho : o.op = .store 77 x y)
    {W0 : World} {q rp g b gs : Nat} {fs : List Fld} {K0 : Int} {cs : Array Value} (hx : a.eval x = .pointer (some ⟨gs, 0, none⟩)) (hy : a.eval y = .agg cs) (hn : NewZ W0 w gs) (hsz : cs.size = 12) (h1 : ∀ v ∈ cs.toList, v.oneCell' = true)
    (hC : CdK q rp g w) (hq : q < W0.heap.size) (hR : RS W0 w g b fs K0) (hK : ∀ w', Blk w' gs 77 cs → CdK q rp g w' → RS W0 w' g b fs K0 → K (a.put d undef) w') :
    if Region.wanted o (yielded ops a.tmps) = true then Oper.wp Tryz.prog o a w K Q else E := by
  have hne : rp ≠ gs := fun h => by
    have h2 := hn.2
    rw [← h] at h2
    have h3 := hC.r
    unfold Blk at h2 h3
    rw [h2] at h3
    injection h3 with h3
    injection h3 with _ h4 _
    exact absurd h4 (by decide)
  refine step_store_row hgd d hd 77 x y ho gs 77 _ cs hx hy hn.2 (by rw [hsz]; rfl) h1 12 st_wide hsz (hK _ (Blk.setRow_ hn.2) ⟨BlkR (by have := hn.1; omega) hC.z, BlkR hne hC.r⟩ ?_)
  exact hR.turn (Turn.row (F := [gs]) (by simp)) fun r hr => by
    rw [List.mem_singleton.1 hr]
    exact ⟨hn.1, _, _, hn.2, by decide, by decide⟩
def numSt12 (fs : List Fld) : St := ⟨numI fs 1, numI fs 2, numI fs 3, numI fs 4, numI fs 5, [], numI fs 6, numI fs 7, numI fs 8, numI fs 9, numI fs 10, ⟨(textAt fs 11).toArray⟩⟩
def CdS (W0 : World) (q rp g b : Nat) (fs : List Fld) (v7 : Value) (wc : World) : Prop :=
  ∃ gs, v7 = .pointer (some ⟨gs, 0, none⟩) ∧ W0.heap.size ≤ gs ∧ Blk wc gs 77 (stcells (numSt12 fs) none 0) ∧ CdK q rp g wc ∧ RS W0 wc g b fs 11
/-- Behind the allocation. -/
def CdF (W0 : World) (q rp g b : Nat) (fs : List Fld) (K : Int) (w : World) (gs : Nat) : Prop := NewZ W0 w gs ∧ RS W0 w g b fs K ∧ CdK q rp g w
theorem CdF.mk {W0 w : World} {q rp g b : Nat} {fs : List Fld} {K : Int} (hR : RS W0 w g b fs K) (hC : CdK q rp g w) : CdF W0 q rp g b fs K (w.alloc (.cells (stcells zeroSt none 0) 77)) w.heap.size :=
  ⟨NewZ.mk hR, hR.up (ExtA (Ext.rfl' _)), hC.ext (ExtA (Ext.rfl' _))⟩
--DEC5 LAD BEGIN
theorem lad {G : Prop} {F0 P0 : World → Nat → Prop} {F1 P1 : World → Nat → Prop} {F2 P2 : World → Nat → Prop} {F3 P3 : World → Nat → Prop} {F4 P4 : World → Nat → Prop} {F5 P5 : World → Nat → Prop} {F6 P6 : World → Nat → Prop} {F7 P7 : World → Nat → Prop} {F8 P8 : World → Nat → Prop} {F9 P9 : World → Nat → Prop} {F10 P10 : World → Nat → Prop}
    (main : (∀ w g, F0 w g → P0 w g) → (∀ w g, F1 w g → P1 w g) → (∀ w g, F2 w g → P2 w g) → (∀ w g, F3 w g → P3 w g) → (∀ w g, F4 w g → P4 w g) → (∀ w g, F5 w g → P5 w g) → (∀ w g, F6 w g → P6 w g) → (∀ w g, F7 w g → P7 w g) → (∀ w g, F8 w g → P8 w g) → (∀ w g, F9 w g → P9 w g) → (∀ w g, F10 w g → P10 w g) → G)
    (p10 : (∀ w g, F10 w g → P10 w g))
    (p9 : (∀ w g, F10 w g → P10 w g) → (∀ w g, F9 w g → P9 w g))
    (p8 : (∀ w g, F9 w g → P9 w g) → (∀ w g, F10 w g → P10 w g) → (∀ w g, F8 w g → P8 w g))
    (p7 : (∀ w g, F8 w g → P8 w g) → (∀ w g, F9 w g → P9 w g) → (∀ w g, F10 w g → P10 w g) → (∀ w g, F7 w g → P7 w g))
    (p6 : (∀ w g, F7 w g → P7 w g) → (∀ w g, F8 w g → P8 w g) → (∀ w g, F9 w g → P9 w g) → (∀ w g, F10 w g → P10 w g) → (∀ w g, F6 w g → P6 w g))
    (p5 : (∀ w g, F6 w g → P6 w g) → (∀ w g, F7 w g → P7 w g) → (∀ w g, F8 w g → P8 w g) → (∀ w g, F9 w g → P9 w g) → (∀ w g, F10 w g → P10 w g) → (∀ w g, F5 w g → P5 w g))
    (p4 : (∀ w g, F5 w g → P5 w g) → (∀ w g, F6 w g → P6 w g) → (∀ w g, F7 w g → P7 w g) → (∀ w g, F8 w g → P8 w g) → (∀ w g, F9 w g → P9 w g) → (∀ w g, F10 w g → P10 w g) → (∀ w g, F4 w g → P4 w g))
    (p3 : (∀ w g, F4 w g → P4 w g) → (∀ w g, F5 w g → P5 w g) → (∀ w g, F6 w g → P6 w g) → (∀ w g, F7 w g → P7 w g) → (∀ w g, F8 w g → P8 w g) → (∀ w g, F9 w g → P9 w g) → (∀ w g, F10 w g → P10 w g) → (∀ w g, F3 w g → P3 w g))
    (p2 : (∀ w g, F3 w g → P3 w g) → (∀ w g, F4 w g → P4 w g) → (∀ w g, F5 w g → P5 w g) → (∀ w g, F6 w g → P6 w g) → (∀ w g, F7 w g → P7 w g) → (∀ w g, F8 w g → P8 w g) → (∀ w g, F9 w g → P9 w g) → (∀ w g, F10 w g → P10 w g) → (∀ w g, F2 w g → P2 w g))
    (p1 : (∀ w g, F2 w g → P2 w g) → (∀ w g, F3 w g → P3 w g) → (∀ w g, F4 w g → P4 w g) → (∀ w g, F5 w g → P5 w g) → (∀ w g, F6 w g → P6 w g) → (∀ w g, F7 w g → P7 w g) → (∀ w g, F8 w g → P8 w g) → (∀ w g, F9 w g → P9 w g) → (∀ w g, F10 w g → P10 w g) → (∀ w g, F1 w g → P1 w g))
    (p0 : (∀ w g, F1 w g → P1 w g) → (∀ w g, F2 w g → P2 w g) → (∀ w g, F3 w g → P3 w g) → (∀ w g, F4 w g → P4 w g) → (∀ w g, F5 w g → P5 w g) → (∀ w g, F6 w g → P6 w g) → (∀ w g, F7 w g → P7 w g) → (∀ w g, F8 w g → P8 w g) → (∀ w g, F9 w g → P9 w g) → (∀ w g, F10 w g → P10 w g) → (∀ w g, F0 w g → P0 w g))
    : G :=
  have h10 := p10
  have h9 := p9 h10
  have h8 := p8 h9 h10
  have h7 := p7 h8 h9 h10
  have h6 := p6 h7 h8 h9 h10
  have h5 := p5 h6 h7 h8 h9 h10
  have h4 := p4 h5 h6 h7 h8 h9 h10
  have h3 := p3 h4 h5 h6 h7 h8 h9 h10
  have h2 := p2 h3 h4 h5 h6 h7 h8 h9 h10
  have h1 := p1 h2 h3 h4 h5 h6 h7 h8 h9 h10
  have h0 := p0 h1 h2 h3 h4 h5 h6 h7 h8 h9 h10
  main h0 h1 h2 h3 h4 h5 h6 h7 h8 h9 h10
--DEC5 LAD END
theorem own_blkL {w : World} {base c : Nat} {A : Option Addr} {ls : List Ln} (h : OwnLs w base A ls c) {r : Nat} (hr : (Value.slice A ls.length c).ownBlock = some r) : base ≤ r ∧ ∃ cur, Blk w r 79 cur := by
  rcases h.2 with ⟨hv, _⟩ | ⟨g2, cap, cur, hv, hb, hg2, _⟩
  · rw [hv] at hr; cases hr
  · rw [hv] at hr
    simp only [Value.ownBlock, Option.some.injEq] at hr
    subst hr
    exact ⟨hb, cur, hg2⟩
theorem CdK.off {q rp g : Nat} {w : World} (h : CdK q rp g w) {r : Nat} {t : TypeId} {cs : Array Value} (hb : Blk w r t cs) (ht : t ≠ 222) : rp ≠ r := fun he => by
  have h3 := h.r
  rw [he] at h3
  unfold Blk at hb h3
  rw [hb] at h3
  injection h3 with h3
  injection h3 with _ h4 _
  exact ht h4
/-- A line more: the reader, the result's cell and the state stand. -/
theorem cd_app {W0 w w5 : World} {q rp g b gs c n : Nat} {fs : List Fld} {K : Int} {A : Option Addr} {ls : List Ln} {cs : Array Value} (hR : RS W0 w g b fs K) (hC : CdK q rp g w) (hq : q < W0.heap.size) (hB : Blk w gs 77 cs)
    (ho : OwnLs w W0.heap.size A ls c) (hn : ls.length = n) (hg : w.grownBy w5 (Value.slice A n c).ownBlock) : RS W0 w5 g b fs K ∧ CdK q rp g w5 ∧ Blk w5 gs 77 cs := by
  subst hn
  have ht : Turn ((Value.slice A ls.length c).ownBlock.toList) w w5 := grown_turn hg fun r hr => .inl (by rw [hr]; simp)
  have hF : ∀ r ∈ (Value.slice A ls.length c).ownBlock.toList, W0.heap.size ≤ r ∧ ∃ cur, Blk w r 79 cur := fun r hr => own_blkL ho (by simpa using hr)
  refine ⟨hR.turn ht fun r hr => ?_, ⟨ht.blk hC.z fun hc => ?_, ht.blk hC.r fun hc => ?_⟩, ht.blk hB fun hc => ?_⟩
  · obtain ⟨h1, cur, h2⟩ := hF r hr
    exact ⟨h1, _, _, h2, by decide, by decide⟩
  · have := (hF q hc).1; omega
  · obtain ⟨_, cur, h2⟩ := hF rp hc
    exact hC.off h2 (by decide) rfl
  · obtain ⟨_, cur, h2⟩ := hF gs hc
    unfold Blk at hB h2
    rw [hB] at h2
    injection h2 with h2
    injection h2 with _ h4 _
    exact absurd h4 (by decide)
theorem cd_set {W0 w : World} {q rp g b gs c k : Nat} {fs : List Fld} {K : Int} {A : Option Addr} {ls : List Ln} {cs : Array Value} {v : Value} (hR : RS W0 w g b fs K) (hC : CdK q rp g w) (hq : q < W0.heap.size) (hgs : W0.heap.size ≤ gs) (hB : Blk w gs 77 cs)
    (ho : OwnLs w W0.heap.size A ls c) : RS W0 (w.setCell ⟨gs, k, none⟩ v) g b fs K ∧ CdK q rp g (w.setCell ⟨gs, k, none⟩ v) ∧ OwnLs (w.setCell ⟨gs, k, none⟩ v) W0.heap.size A ls c := by
  have ht : Turn [gs] w (w.setCell ⟨gs, k, none⟩ v) := Turn.cell (by simp)
  refine ⟨hR.turn ht fun r hr => ?_, ⟨ht.blk hC.z ?_, ht.blk hC.r ?_⟩, ht.own ho fun r hr hc => ?_⟩
  · rw [List.mem_singleton.1 hr]; exact ⟨hgs, _, _, hB, by decide, by decide⟩
  · rw [List.mem_singleton]; omega
  · rw [List.mem_singleton]; exact hC.off hB (by decide)
  · rw [List.mem_singleton.1 hc] at hr
    exact blk_off ho hB (by decide) hr
theorem st12_size (s : St) (A : Option Addr) (c : Nat) : (stcells s A c).size = 12 := rfl
def stK (fs : List Fld) (k : Nat) : St := ⟨numI fs 1, numI fs 2, numI fs 3, numI fs 4, numI fs 5, ((runOf fs).take k).map fun b => (unl b).1, numI fs 6, numI fs 7, numI fs 8, numI fs 9, numI fs 10, ⟨(textAt fs 11).toArray⟩⟩
def okK (fs : List Fld) (k : Nat) : Bool := ((runOf fs).take k).all fun b => (unl b).2
theorem stK_all (fs : List Fld) : stK fs (runOf fs).length = stOf fs := by unfold stK stOf; rw [List.take_length]
theorem okK_all (fs : List Fld) : okK fs (runOf fs).length = allOk fs := by unfold okK allOk; rw [List.take_length]
theorem stK_len {fs : List Fld} {k : Nat} (h : k ≤ (runOf fs).length) : (((runOf fs).take k).map fun b => (unl b).1).length = k := by simp; omega
theorem stK_succ {fs : List Fld} {k : Nat} (h : k < (runOf fs).length) : (((runOf fs).take (k + 1)).map fun b => (unl b).1) = (((runOf fs).take k).map fun b => (unl b).1) ++ [(unl (runOf fs)[k]).1] := by
  rw [List.take_succ_eq_append_getElem h, List.map_append]; rfl
theorem okK_succ {fs : List Fld} {k : Nat} (h : k < (runOf fs).length) : okK fs (k + 1) = (okK fs k && (unl (runOf fs)[k]).2) := by
  unfold okK
  rw [List.take_succ_eq_append_getElem h, List.all_append]; simp
def CdR (W0 : World) (q rp g b gs : Nat) (fs : List Fld) (c8 c48 : Value) (wr : World) : Prop :=
  ∃ (k : Nat) (A : Option Addr) (c : Nat), c48 = .int .i64 (k : Nat) ∧ k ≤ (runOf fs).length ∧ c8 = .bool (okK fs k) ∧ RS W0 wr g b fs (11 + (k : Int)) ∧ CdK q rp g wr ∧ Blk wr gs 77 (stcells (stK fs k) A c) ∧ OwnLs wr W0.heap.size A (((runOf fs).take k).map fun b => (unl b).1) c
theorem rdL_new (w : World) (a b c d : Int) (g : Nat) (hg : w.heap.size = g) : RdN (w.alloc (.cells #[.int .i64 a, .int .i64 b, .int .i64 c, .int .i64 d] 79)) 4 (some ⟨g, 0, none⟩) 1 (lnCells [⟨a, b, c, d⟩]) := by
  subst hg
  refine ⟨rfl, fun _ => ⟨w.heap.size, 0, rfl, fun j u hu => ?_⟩⟩
  rw [Nat.zero_add, World.cell?_alloc_new]
  rw [lnCells_one1] at hu
  unfold lncells at hu
  simpa using hu
theorem isK (K : Int) (h : decide (0 ≤ K ∧ K ≤ 1000) = true) : IsK K := by simpa [IsK] using h
def CanDPost (w : World) (l : List UInt8) (e : Ending) (w' : World) : Prop := ∃ A c, e = .returned (.tuple #[.agg (stcells (canD l).1 A c), .int .i64 ((canD l).2 : Nat)]) ∧ Ext w w' ∧ OwnLs w' w.heap.size A (canD l).1.lines c
set_option maxRecDepth 100000 in
set_option maxHeartbeats 8000000 in
theorem cdec_any (A : Option Addr) (n c : Nat) (l : List UInt8) (w : World) (hr : Rd w A n (u8s l)) (hnc : n ≤ c) (hn : n ≤ maxLen) :
    Calls Tryz.prog 88 #[.slice A n c] w (CanDPost w l) := by
  have KN := Lib.hid fun W (hx : Ext w W) => rs_new A n c l W (hr.ext hx) hnc hn
  have hal := alloc_ln
  have hmf : ∀ (fn : Fn) (first cap : Array Value) (w : World), (Instr.makeFunc fn first cap).run Tryz.prog w = .ok (.func fn first cap) w := fun _ _ _ _ => rfl
  unfold lncells at hal
  dsimp only at hal
  clear hr hnc hn
  unfold CanDPost
  obtain ⟨⟨fs, at_, E⟩, hd⟩ : ∃ x, x = dec l := ⟨_, rfl⟩
  rw [← hd] at KN
  dsimp only at KN
  have HD := Lib.hid hd
  by_cases hE : E = 0
  · subst hE
    obtain ⟨i1, i2, hfw, hfp, i5, i6, hft, i8⟩ := dec_inv (b := l) (by rw [← hd])
    clear i1 i2 i5 i6 i8
    rw [← hd] at hfw hfp hft
    dsimp only at hfw hfp hft
    have hrise := rising_of_faults hft
    clear hd
    go_enter Tryz.func88, Tryz.ntmps88
    go_wp2_with fail
    go_upto_region 5 with (go_at_call 132; (with_reducible refine (KN.out _ (ExtA (Ext.rfl' _))).mono ?_); rintro e w1 ⟨hx1, ⟨h0, _⟩ | ⟨_, g, b, rfl, hR⟩⟩; first | exact absurd rfl h0 | skip)
    have b1 : Blk (w1.alloc (.cells #[.pointer (some ⟨g, 0, none⟩)] 222)) w1.heap.size 222 #[.pointer (some ⟨g, 0, none⟩)] := BlkN rfl
    have b0 : Blk (w1.alloc (.cells #[.pointer (some ⟨g, 0, none⟩)] 222)) w.heap.size 77 (stcells zeroSt none 0) := BlkA (BlkE (BlkN rfl) hx1)
    have hR0 : RS (w.alloc (.cells (stcells zeroSt none 0) 77)) (w1.alloc (.cells #[.pointer (some ⟨g, 0, none⟩)] 222)).drew g b fs 0 := hR.up (ExtD (ExtA (o := .cells #[.pointer (some ⟨g, 0, none⟩)] 222) (Ext.rfl' w1)))
    have Hoff := Lib.hid (And.intro (hR0.off (BlkD b0) (by decide)) (hR0.off (BlkD b1) (by decide)))
    have hK0 : CdK w.heap.size w1.heap.size g (w1.alloc (.cells #[.pointer (some ⟨g, 0, none⟩)] 222)).drew := ⟨BlkD b0, BlkD b1⟩
    clear b0 b1 hR
    go_cut [7] (fun v7 wc => CdS (w.alloc (.cells (stcells zeroSt none 0) 77)) w.heap.size w1.heap.size g b fs v7 wc)
    case first =>
--DEC5 WALK BEGIN
      refine wp_region_noPanic ?_
      refine wp_region_held_drew (S := CdK w.heap.size w1.heap.size g) (by kernel_rfl) hK0 (fun hC => ?_)
      clear hK0
      generalize (w1.alloc (.cells #[.pointer (some ⟨g, 0, none⟩)] 222)).drew = w10 at *
      have hR := hR0
      clear hR0
      refine wpAnyH_take (i := 0) (v := ?_) rfl (by kernel_rfl) (by kernel_rfl) (by kernel_rfl) (fun _ _ _ h => h) (Or.inl ⟨by rfl, ?_⟩) hC ?_
      rotate_left 1
      · intro w hSw
        go_simp
        all_goals with_reducible rfl
      try simp only [Act.put, List.setIfInBounds_toArray, List.set_cons_zero, List.set_cons_succ]
      refine wpAnyH_take (i := 2) (v := ?_) rfl (by kernel_rfl) (by kernel_rfl) (by kernel_rfl) (fun _ _ _ h => h) (Or.inl ⟨by rfl, ?_⟩) hC ?_
      rotate_left 1
      · intro w hSw
        go_simp
        all_goals with_reducible rfl
      try simp only [Act.put, List.setIfInBounds_toArray, List.set_cons_zero, List.set_cons_succ]
      refine wpAnyH_take (i := 4) (v := ?_) rfl (by kernel_rfl) (by kernel_rfl) (by kernel_rfl) (fun _ _ _ h => h) (Or.inl ⟨by rfl, ?_⟩) hC ?_
      rotate_left 1
      · intro w hSw
        go_simp
        all_goals with_reducible rfl
      try simp only [Act.put, List.setIfInBounds_toArray, List.set_cons_zero, List.set_cons_succ]
      refine wpAnyH_take (i := 6) (v := ?_) rfl (by kernel_rfl) (by kernel_rfl) (by kernel_rfl) (fun _ _ _ h => h) (Or.inl ⟨by rfl, ?_⟩) hC ?_
      rotate_left 1
      · intro w hSw
        go_simp
        all_goals with_reducible rfl
      try simp only [Act.put, List.setIfInBounds_toArray, List.set_cons_zero, List.set_cons_succ]
      refine wpAnyH_take (i := 8) (v := ?_) rfl (by kernel_rfl) (by kernel_rfl) (by kernel_rfl) (fun _ _ _ h => h) (Or.inl ⟨by rfl, ?_⟩) hC ?_
      rotate_left 1
      · intro w hSw
        go_simp
        all_goals with_reducible rfl
      try simp only [Act.put, List.setIfInBounds_toArray, List.set_cons_zero, List.set_cons_succ]
      refine wpAnyH_take (i := 10) (v := ?_) rfl (by kernel_rfl) (by kernel_rfl) (by kernel_rfl) (fun _ _ _ h => h) (Or.inl ⟨by rfl, ?_⟩) hC ?_
      rotate_left 1
      · intro w hSw
        go_simp
        all_goals with_reducible rfl
      try simp only [Act.put, List.setIfInBounds_toArray, List.set_cons_zero, List.set_cons_succ]
      refine wpAnyH_take (i := 12) (v := ?_) rfl (by kernel_rfl) (by kernel_rfl) (by kernel_rfl) (fun _ _ _ h => h) (Or.inl ⟨by rfl, ?_⟩) hC ?_
      rotate_left 1
      · intro w hSw
        go_simp
        all_goals with_reducible rfl
      try simp only [Act.put, List.setIfInBounds_toArray, List.set_cons_zero, List.set_cons_succ]
      refine wpAnyH_take (i := 14) (v := ?_) rfl (by kernel_rfl) (by kernel_rfl) (by kernel_rfl) (fun _ _ _ h => h) (Or.inl ⟨by rfl, ?_⟩) hC ?_
      rotate_left 1
      · intro w hSw
        go_simp
        all_goals with_reducible rfl
      try simp only [Act.put, List.setIfInBounds_toArray, List.set_cons_zero, List.set_cons_succ]
      refine wpAnyH_take (i := 16) (v := ?_) rfl (by kernel_rfl) (by kernel_rfl) (by kernel_rfl) (fun _ _ _ h => h) (Or.inl ⟨by rfl, ?_⟩) hC ?_
      rotate_left 1
      · intro w hSw
        go_simp
        all_goals with_reducible rfl
      try simp only [Act.put, List.setIfInBounds_toArray, List.set_cons_zero, List.set_cons_succ]
      refine wpAnyH_take (i := 18) (v := ?_) rfl (by kernel_rfl) (by kernel_rfl) (by kernel_rfl) (fun _ _ _ h => h) (Or.inl ⟨by rfl, ?_⟩) hC ?_
      rotate_left 1
      · intro w hSw
        go_simp
        all_goals with_reducible rfl
      try simp only [Act.put, List.setIfInBounds_toArray, List.set_cons_zero, List.set_cons_succ]
      refine wpAnyH_take (i := 20) (v := ?_) rfl (by kernel_rfl) (by kernel_rfl) (by kernel_rfl) (fun _ _ _ h => h) (Or.inl ⟨by rfl, ?_⟩) hC ?_
      rotate_left 1
      · intro w hSw
        have hSr := hSw.r.cell 0
        go_simp
        all_goals with_reducible rfl
      try simp only [Act.put, List.setIfInBounds_toArray, List.set_cons_zero, List.set_cons_succ]
      refine' lad (F0 := CdF (w.alloc (.cells (stcells zeroSt none 0) 77)) w.heap.size w1.heap.size g b fs 0) (F1 := CdF (w.alloc (.cells (stcells zeroSt none 0) 77)) w.heap.size w1.heap.size g b fs 1) (F2 := CdF (w.alloc (.cells (stcells zeroSt none 0) 77)) w.heap.size w1.heap.size g b fs 2) (F3 := CdF (w.alloc (.cells (stcells zeroSt none 0) 77)) w.heap.size w1.heap.size g b fs 3) (F4 := CdF (w.alloc (.cells (stcells zeroSt none 0) 77)) w.heap.size w1.heap.size g b fs 4) (F5 := CdF (w.alloc (.cells (stcells zeroSt none 0) 77)) w.heap.size w1.heap.size g b fs 5) (F6 := CdF (w.alloc (.cells (stcells zeroSt none 0) 77)) w.heap.size w1.heap.size g b fs 6) (F7 := CdF (w.alloc (.cells (stcells zeroSt none 0) 77)) w.heap.size w1.heap.size g b fs 7) (F8 := CdF (w.alloc (.cells (stcells zeroSt none 0) 77)) w.heap.size w1.heap.size g b fs 8) (F9 := CdF (w.alloc (.cells (stcells zeroSt none 0) 77)) w.heap.size w1.heap.size g b fs 9) (F10 := CdF (w.alloc (.cells (stcells zeroSt none 0) 77)) w.heap.size w1.heap.size g b fs 10) ?_ ?_ ?_ ?_ ?_ ?_ ?_ ?_ ?_ ?_ ?_ ?_
      rotate_left 11
      · intro h0 h1 h2 h3 h4 h5 h6 h7 h8 h9 h10
        refine wpAnyH_ready (rs := [1, 24]) (by kernel_rfl) (by simp) ?_
        refine AllReadyH.cons rfl (fun K hK => ?_) (AllReadyH.cons rfl (fun K hK => ?_) AllReadyH.nil)
        rotate_left 1
        · go_simp
          refine hK.out _ _ (CdK.ext hC (ExtA (Ext.rfl' _))) (fun _ => ?_)
          clear hK K
          try simp only [Act.put, List.setIfInBounds_toArray, List.set_cons_zero, List.set_cons_succ]
          have hF := CdF.mk hR hC
          unfold stcells zeroSt at hF
          dsimp only at hF
          generalize w10.alloc _ = wa at hF ⊢
          generalize w10.heap.size = ga at hF ⊢
          exact h0 wa ga hF
        go_simp
        refine (cnum_any (K := 0) (t := 1) hR hrise (isK 0 (by decide)) (by decide) (by decide) (hC.r.cell 0)).mono ?_
        rintro e w11 ⟨rfl, ht, hR'⟩
        go_wp2_with fail
        refine hK.out _ _ (hC.turn ht Hoff.out) (fun hC' => ?_)
        clear hK K
        try simp only [Act.put, List.setIfInBounds_toArray, List.set_cons_zero, List.set_cons_succ]
        replace hR := hR'
        replace hC := hC'
        clear hR' hC' ht
        refine wpAnyH_ready (rs := [3, 24]) (by kernel_rfl) (by simp) ?_
        refine AllReadyH.cons rfl (fun K hK => ?_) (AllReadyH.cons rfl (fun K hK => ?_) AllReadyH.nil)
        rotate_left 1
        · go_simp
          refine hK.out _ _ (CdK.ext hC (ExtA (Ext.rfl' _))) (fun _ => ?_)
          clear hK K
          try simp only [Act.put, List.setIfInBounds_toArray, List.set_cons_zero, List.set_cons_succ]
          have hF := CdF.mk hR hC
          unfold stcells zeroSt at hF
          dsimp only at hF
          generalize w11.alloc _ = wa at hF ⊢
          generalize w11.heap.size = ga at hF ⊢
          exact h1 wa ga hF
        go_simp
        refine (cnum_any (K := 1) (t := 2) hR hrise (isK 1 (by decide)) (by decide) (by decide) (hC.r.cell 0)).mono ?_
        rintro e w12 ⟨rfl, ht, hR'⟩
        go_wp2_with fail
        refine hK.out _ _ (hC.turn ht Hoff.out) (fun hC' => ?_)
        clear hK K
        try simp only [Act.put, List.setIfInBounds_toArray, List.set_cons_zero, List.set_cons_succ]
        replace hR := hR'
        replace hC := hC'
        clear hR' hC' ht
        refine wpAnyH_ready (rs := [5, 24]) (by kernel_rfl) (by simp) ?_
        refine AllReadyH.cons rfl (fun K hK => ?_) (AllReadyH.cons rfl (fun K hK => ?_) AllReadyH.nil)
        rotate_left 1
        · go_simp
          refine hK.out _ _ (CdK.ext hC (ExtA (Ext.rfl' _))) (fun _ => ?_)
          clear hK K
          try simp only [Act.put, List.setIfInBounds_toArray, List.set_cons_zero, List.set_cons_succ]
          have hF := CdF.mk hR hC
          unfold stcells zeroSt at hF
          dsimp only at hF
          generalize w12.alloc _ = wa at hF ⊢
          generalize w12.heap.size = ga at hF ⊢
          exact h2 wa ga hF
        go_simp
        refine (cnum_any (K := 2) (t := 3) hR hrise (isK 2 (by decide)) (by decide) (by decide) (hC.r.cell 0)).mono ?_
        rintro e w13 ⟨rfl, ht, hR'⟩
        go_wp2_with fail
        refine hK.out _ _ (hC.turn ht Hoff.out) (fun hC' => ?_)
        clear hK K
        try simp only [Act.put, List.setIfInBounds_toArray, List.set_cons_zero, List.set_cons_succ]
        replace hR := hR'
        replace hC := hC'
        clear hR' hC' ht
        refine wpAnyH_ready (rs := [7, 24]) (by kernel_rfl) (by simp) ?_
        refine AllReadyH.cons rfl (fun K hK => ?_) (AllReadyH.cons rfl (fun K hK => ?_) AllReadyH.nil)
        rotate_left 1
        · go_simp
          refine hK.out _ _ (CdK.ext hC (ExtA (Ext.rfl' _))) (fun _ => ?_)
          clear hK K
          try simp only [Act.put, List.setIfInBounds_toArray, List.set_cons_zero, List.set_cons_succ]
          have hF := CdF.mk hR hC
          unfold stcells zeroSt at hF
          dsimp only at hF
          generalize w13.alloc _ = wa at hF ⊢
          generalize w13.heap.size = ga at hF ⊢
          exact h3 wa ga hF
        go_simp
        refine (cnum_any (K := 3) (t := 4) hR hrise (isK 3 (by decide)) (by decide) (by decide) (hC.r.cell 0)).mono ?_
        rintro e w14 ⟨rfl, ht, hR'⟩
        go_wp2_with fail
        refine hK.out _ _ (hC.turn ht Hoff.out) (fun hC' => ?_)
        clear hK K
        try simp only [Act.put, List.setIfInBounds_toArray, List.set_cons_zero, List.set_cons_succ]
        replace hR := hR'
        replace hC := hC'
        clear hR' hC' ht
        refine wpAnyH_ready (rs := [9, 24]) (by kernel_rfl) (by simp) ?_
        refine AllReadyH.cons rfl (fun K hK => ?_) (AllReadyH.cons rfl (fun K hK => ?_) AllReadyH.nil)
        rotate_left 1
        · go_simp
          refine hK.out _ _ (CdK.ext hC (ExtA (Ext.rfl' _))) (fun _ => ?_)
          clear hK K
          try simp only [Act.put, List.setIfInBounds_toArray, List.set_cons_zero, List.set_cons_succ]
          have hF := CdF.mk hR hC
          unfold stcells zeroSt at hF
          dsimp only at hF
          generalize w14.alloc _ = wa at hF ⊢
          generalize w14.heap.size = ga at hF ⊢
          exact h4 wa ga hF
        go_simp
        refine (cnum_any (K := 4) (t := 5) hR hrise (isK 4 (by decide)) (by decide) (by decide) (hC.r.cell 0)).mono ?_
        rintro e w15 ⟨rfl, ht, hR'⟩
        go_wp2_with fail
        refine hK.out _ _ (hC.turn ht Hoff.out) (fun hC' => ?_)
        clear hK K
        try simp only [Act.put, List.setIfInBounds_toArray, List.set_cons_zero, List.set_cons_succ]
        replace hR := hR'
        replace hC := hC'
        clear hR' hC' ht
        refine wpAnyH_ready (rs := [11, 24]) (by kernel_rfl) (by simp) ?_
        refine AllReadyH.cons rfl (fun K hK => ?_) (AllReadyH.cons rfl (fun K hK => ?_) AllReadyH.nil)
        rotate_left 1
        · go_simp
          refine hK.out _ _ (CdK.ext hC (ExtA (Ext.rfl' _))) (fun _ => ?_)
          clear hK K
          try simp only [Act.put, List.setIfInBounds_toArray, List.set_cons_zero, List.set_cons_succ]
          have hF := CdF.mk hR hC
          unfold stcells zeroSt at hF
          dsimp only at hF
          generalize w15.alloc _ = wa at hF ⊢
          generalize w15.heap.size = ga at hF ⊢
          exact h5 wa ga hF
        go_simp
        refine (cnum_any (K := 5) (t := 6) hR hrise (isK 5 (by decide)) (by decide) (by decide) (hC.r.cell 0)).mono ?_
        rintro e w16 ⟨rfl, ht, hR'⟩
        go_wp2_with fail
        refine hK.out _ _ (hC.turn ht Hoff.out) (fun hC' => ?_)
        clear hK K
        try simp only [Act.put, List.setIfInBounds_toArray, List.set_cons_zero, List.set_cons_succ]
        replace hR := hR'
        replace hC := hC'
        clear hR' hC' ht
        refine wpAnyH_ready (rs := [13, 24]) (by kernel_rfl) (by simp) ?_
        refine AllReadyH.cons rfl (fun K hK => ?_) (AllReadyH.cons rfl (fun K hK => ?_) AllReadyH.nil)
        rotate_left 1
        · go_simp
          refine hK.out _ _ (CdK.ext hC (ExtA (Ext.rfl' _))) (fun _ => ?_)
          clear hK K
          try simp only [Act.put, List.setIfInBounds_toArray, List.set_cons_zero, List.set_cons_succ]
          have hF := CdF.mk hR hC
          unfold stcells zeroSt at hF
          dsimp only at hF
          generalize w16.alloc _ = wa at hF ⊢
          generalize w16.heap.size = ga at hF ⊢
          exact h6 wa ga hF
        go_simp
        refine (cnum_any (K := 6) (t := 7) hR hrise (isK 6 (by decide)) (by decide) (by decide) (hC.r.cell 0)).mono ?_
        rintro e w17 ⟨rfl, ht, hR'⟩
        go_wp2_with fail
        refine hK.out _ _ (hC.turn ht Hoff.out) (fun hC' => ?_)
        clear hK K
        try simp only [Act.put, List.setIfInBounds_toArray, List.set_cons_zero, List.set_cons_succ]
        replace hR := hR'
        replace hC := hC'
        clear hR' hC' ht
        refine wpAnyH_ready (rs := [15, 24]) (by kernel_rfl) (by simp) ?_
        refine AllReadyH.cons rfl (fun K hK => ?_) (AllReadyH.cons rfl (fun K hK => ?_) AllReadyH.nil)
        rotate_left 1
        · go_simp
          refine hK.out _ _ (CdK.ext hC (ExtA (Ext.rfl' _))) (fun _ => ?_)
          clear hK K
          try simp only [Act.put, List.setIfInBounds_toArray, List.set_cons_zero, List.set_cons_succ]
          have hF := CdF.mk hR hC
          unfold stcells zeroSt at hF
          dsimp only at hF
          generalize w17.alloc _ = wa at hF ⊢
          generalize w17.heap.size = ga at hF ⊢
          exact h7 wa ga hF
        go_simp
        refine (cnum_any (K := 7) (t := 8) hR hrise (isK 7 (by decide)) (by decide) (by decide) (hC.r.cell 0)).mono ?_
        rintro e w18 ⟨rfl, ht, hR'⟩
        go_wp2_with fail
        refine hK.out _ _ (hC.turn ht Hoff.out) (fun hC' => ?_)
        clear hK K
        try simp only [Act.put, List.setIfInBounds_toArray, List.set_cons_zero, List.set_cons_succ]
        replace hR := hR'
        replace hC := hC'
        clear hR' hC' ht
        refine wpAnyH_ready (rs := [17, 24]) (by kernel_rfl) (by simp) ?_
        refine AllReadyH.cons rfl (fun K hK => ?_) (AllReadyH.cons rfl (fun K hK => ?_) AllReadyH.nil)
        rotate_left 1
        · go_simp
          refine hK.out _ _ (CdK.ext hC (ExtA (Ext.rfl' _))) (fun _ => ?_)
          clear hK K
          try simp only [Act.put, List.setIfInBounds_toArray, List.set_cons_zero, List.set_cons_succ]
          have hF := CdF.mk hR hC
          unfold stcells zeroSt at hF
          dsimp only at hF
          generalize w18.alloc _ = wa at hF ⊢
          generalize w18.heap.size = ga at hF ⊢
          exact h8 wa ga hF
        go_simp
        refine (cnum_any (K := 8) (t := 9) hR hrise (isK 8 (by decide)) (by decide) (by decide) (hC.r.cell 0)).mono ?_
        rintro e w19 ⟨rfl, ht, hR'⟩
        go_wp2_with fail
        refine hK.out _ _ (hC.turn ht Hoff.out) (fun hC' => ?_)
        clear hK K
        try simp only [Act.put, List.setIfInBounds_toArray, List.set_cons_zero, List.set_cons_succ]
        replace hR := hR'
        replace hC := hC'
        clear hR' hC' ht
        refine wpAnyH_ready (rs := [19, 24]) (by kernel_rfl) (by simp) ?_
        refine AllReadyH.cons rfl (fun K hK => ?_) (AllReadyH.cons rfl (fun K hK => ?_) AllReadyH.nil)
        rotate_left 1
        · go_simp
          refine hK.out _ _ (CdK.ext hC (ExtA (Ext.rfl' _))) (fun _ => ?_)
          clear hK K
          try simp only [Act.put, List.setIfInBounds_toArray, List.set_cons_zero, List.set_cons_succ]
          have hF := CdF.mk hR hC
          unfold stcells zeroSt at hF
          dsimp only at hF
          generalize w19.alloc _ = wa at hF ⊢
          generalize w19.heap.size = ga at hF ⊢
          exact h9 wa ga hF
        go_simp
        refine (cnum_any (K := 9) (t := 10) hR hrise (isK 9 (by decide)) (by decide) (by decide) (hC.r.cell 0)).mono ?_
        rintro e w20 ⟨rfl, ht, hR'⟩
        go_wp2_with fail
        refine hK.out _ _ (hC.turn ht Hoff.out) (fun hC' => ?_)
        clear hK K
        try simp only [Act.put, List.setIfInBounds_toArray, List.set_cons_zero, List.set_cons_succ]
        replace hR := hR'
        replace hC := hC'
        clear hR' hC' ht
        refine wpAnyH_ready (rs := [21, 24]) (by kernel_rfl) (by simp) ?_
        refine AllReadyH.cons rfl (fun K hK => ?_) (AllReadyH.cons rfl (fun K hK => ?_) AllReadyH.nil)
        rotate_left 1
        · go_simp
          refine hK.out _ _ (CdK.ext hC (ExtA (Ext.rfl' _))) (fun _ => ?_)
          clear hK K
          try simp only [Act.put, List.setIfInBounds_toArray, List.set_cons_zero, List.set_cons_succ]
          have hF := CdF.mk hR hC
          unfold stcells zeroSt at hF
          dsimp only at hF
          generalize w20.alloc _ = wa at hF ⊢
          generalize w20.heap.size = ga at hF ⊢
          exact h10 wa ga hF
        go_simp
        refine (rs_text (K := 10) (t := 11) hR hrise (isK 10 (by decide)) (by decide) (by decide)).mono ?_
        rintro e w21 ⟨A21, c21, rfl, ht, hR', hrd21, -, -⟩
        go_wp2_with fail
        refine hK.out _ _ (hC.turn ht Hoff.out) (fun hC' => ?_)
        clear hK K
        try simp only [Act.put, List.setIfInBounds_toArray, List.set_cons_zero, List.set_cons_succ]
        replace hR := hR'
        replace hC := hC'
        clear hR' hC' ht
        refine wpAnyH_ready (rs := [22, 24]) (by kernel_rfl) (by simp) ?_
        refine AllReadyH.cons rfl (fun K hK => ?_) (AllReadyH.cons rfl (fun K hK => ?_) AllReadyH.nil)
        rotate_left 1
        · go_simp
          refine hK.out _ _ (CdK.ext hC (ExtA (Ext.rfl' _))) (fun hC' => ?_)
          clear hK K
          try simp only [Act.put, List.setIfInBounds_toArray, List.set_cons_zero, List.set_cons_succ]
          have hF := CdF.mk hR hC
          replace hrd21 := hrd21.ext (ExtA (o := .cells (stcells zeroSt none 0) 77) (Ext.rfl' w21))
          unfold stcells zeroSt at hF hrd21
          dsimp only at hF hrd21
          clear hC hR hC'
          generalize w21.alloc _ = wa at hF hrd21 ⊢
          generalize w21.heap.size = ga at hF ⊢
          obtain ⟨hN, hR, hC⟩ := hF
          have hs21 := str_of c21 hrd21
          refine wpAnyH_ready (rs := [22]) (by kernel_rfl) (by simp) ?_
          refine AllReadyH.cons rfl (fun K hK => ?_) AllReadyH.nil
          go_simp
          refine hK.out _ _ hC (fun _ => ?_)
          clear hK K
          try simp only [Act.put, List.setIfInBounds_toArray, List.set_cons_zero, List.set_cons_succ]
          refine wpAnyH_ready (rs := [23]) (by kernel_rfl) (by simp) ?_
          refine AllReadyH.cons rfl (fun K hK => ?_) AllReadyH.nil
          go_simp
          refine hK.out _ _ hC (fun _ => ?_)
          clear hK K
          try simp only [Act.put, List.setIfInBounds_toArray, List.set_cons_zero, List.set_cons_succ]
          refine wpAnyH_ready (rs := [25]) (by kernel_rfl) (by simp) ?_
          refine AllReadyH.cons rfl (fun K hK => ?_) AllReadyH.nil
          refine step_storeS rfl none rfl (.tmp 7) (.tmp 47) rfl rfl rfl hN rfl (s12_one _ _ _ _ _ _ _ _ _ _ _ _ _ _) hC (by simp) hR (fun w25 hB25 hC25 hR25 => ?_)
          refine hK.out _ _ hC25 (fun _ => ?_)
          clear hK K
          try simp only [Act.put, List.setIfInBounds_toArray, List.set_cons_zero, List.set_cons_succ]
          refine wpAnyH_done (by kernel_rfl) ?_ _
          refine NoPanic.normal ?_
          go_wp2_with fail
          go_meet
          case rel => exact ⟨_, rfl, hN.1, hB25, hC25, hR25⟩
        have hs21 := str_of c21 hrd21
        go_simp
        refine hK.out _ _ hC (fun _ => ?_)
        clear hK K
        try simp only [Act.put, List.setIfInBounds_toArray, List.set_cons_zero, List.set_cons_succ]
        refine wpAnyH_take (i := 23) (v := ?_) rfl (by kernel_rfl) (by kernel_rfl) (by kernel_rfl) (fun _ _ _ h => h) (Or.inl ⟨by rfl, ?_⟩) hC ?_
        rotate_left 1
        · intro w hSw
          go_simp
          all_goals with_reducible rfl
        try simp only [Act.put, List.setIfInBounds_toArray, List.set_cons_zero, List.set_cons_succ]
        refine wpAnyH_ready (rs := [24]) (by kernel_rfl) (by simp) ?_
        refine AllReadyH.cons rfl (fun K hK => ?_) AllReadyH.nil
        go_simp
        refine hK.out _ _ (CdK.ext hC (ExtA (Ext.rfl' _))) (fun hC' => ?_)
        clear hK K
        try simp only [Act.put, List.setIfInBounds_toArray, List.set_cons_zero, List.set_cons_succ]
        have hF := CdF.mk hR hC
        unfold stcells zeroSt at hF
        dsimp only at hF
        clear hC hR hC'
        generalize w21.alloc _ = wa at hF ⊢
        generalize w21.heap.size = ga at hF ⊢
        obtain ⟨hN, hR, hC⟩ := hF
        refine wpAnyH_ready (rs := [25]) (by kernel_rfl) (by simp) ?_
        refine AllReadyH.cons rfl (fun K hK => ?_) AllReadyH.nil
        refine step_storeS rfl none rfl (.tmp 7) (.tmp 47) rfl rfl rfl hN rfl (s12_one _ _ _ _ _ _ _ _ _ _ _ _ _ _) hC (by simp) hR (fun w25 hB25 hC25 hR25 => ?_)
        refine hK.out _ _ hC25 (fun _ => ?_)
        clear hK K
        try simp only [Act.put, List.setIfInBounds_toArray, List.set_cons_zero, List.set_cons_succ]
        refine wpAnyH_done (by kernel_rfl) ?_ _
        refine NoPanic.normal ?_
        go_wp2_with fail
        go_meet
        case rel => exact ⟨_, rfl, hN.1, hB25, hC25, hR25⟩
      · intro wa ga hF
        obtain ⟨hN, hR, hC⟩ := hF
        refine wpAnyH_ready (rs := [21]) (by kernel_rfl) (by simp) ?_
        refine AllReadyH.cons rfl (fun K hK => ?_) AllReadyH.nil
        go_simp
        refine (rs_text (K := 10) (t := 11) hR hrise (isK 10 (by decide)) (by decide) (by decide)).mono ?_
        rintro e wb ⟨A21, c21, rfl, ht, hR', hrd21, -, -⟩
        go_wp2_with fail
        refine hK.out _ _ (hC.turn ht Hoff.out) (fun hC' => ?_)
        clear hK K
        try simp only [Act.put, List.setIfInBounds_toArray, List.set_cons_zero, List.set_cons_succ]
        have hN' := NewZ.next hR ht hN
        replace hN := hN'
        clear hN'
        replace hR := hR'
        replace hC := hC'
        clear hR' hC' ht
        have hs21 := str_of c21 hrd21
        refine wpAnyH_ready (rs := [22]) (by kernel_rfl) (by simp) ?_
        refine AllReadyH.cons rfl (fun K hK => ?_) AllReadyH.nil
        go_simp
        refine hK.out _ _ hC (fun _ => ?_)
        clear hK K
        try simp only [Act.put, List.setIfInBounds_toArray, List.set_cons_zero, List.set_cons_succ]
        refine wpAnyH_ready (rs := [23]) (by kernel_rfl) (by simp) ?_
        refine AllReadyH.cons rfl (fun K hK => ?_) AllReadyH.nil
        go_simp
        refine hK.out _ _ hC (fun _ => ?_)
        clear hK K
        try simp only [Act.put, List.setIfInBounds_toArray, List.set_cons_zero, List.set_cons_succ]
        refine wpAnyH_ready (rs := [25]) (by kernel_rfl) (by simp) ?_
        refine AllReadyH.cons rfl (fun K hK => ?_) AllReadyH.nil
        refine step_storeS rfl none rfl (.tmp 7) (.tmp 47) rfl rfl rfl hN rfl (s12_one _ _ _ _ _ _ _ _ _ _ _ _ _ _) hC (by simp) hR (fun w25 hB25 hC25 hR25 => ?_)
        refine hK.out _ _ hC25 (fun _ => ?_)
        clear hK K
        try simp only [Act.put, List.setIfInBounds_toArray, List.set_cons_zero, List.set_cons_succ]
        refine wpAnyH_done (by kernel_rfl) ?_ _
        refine NoPanic.normal ?_
        go_wp2_with fail
        go_meet
        case rel => exact ⟨_, rfl, hN.1, hB25, hC25, hR25⟩
      · intro h10 wa ga hF
        obtain ⟨hN, hR, hC⟩ := hF
        refine wpAnyH_ready (rs := [19]) (by kernel_rfl) (by simp) ?_
        refine AllReadyH.cons rfl (fun K hK => ?_) AllReadyH.nil
        go_simp
        refine (cnum_any (K := 9) (t := 10) hR hrise (isK 9 (by decide)) (by decide) (by decide) (hC.r.cell 0)).mono ?_
        rintro e wb ⟨rfl, ht, hR'⟩
        go_wp2_with fail
        refine hK.out _ _ (hC.turn ht Hoff.out) (fun hC' => ?_)
        clear hK K
        try simp only [Act.put, List.setIfInBounds_toArray, List.set_cons_zero, List.set_cons_succ]
        exact h10 wb ga ⟨NewZ.next hR ht hN, hR', hC'⟩
      · intro h9 h10 wa ga hF
        obtain ⟨hN, hR, hC⟩ := hF
        refine wpAnyH_ready (rs := [17]) (by kernel_rfl) (by simp) ?_
        refine AllReadyH.cons rfl (fun K hK => ?_) AllReadyH.nil
        go_simp
        refine (cnum_any (K := 8) (t := 9) hR hrise (isK 8 (by decide)) (by decide) (by decide) (hC.r.cell 0)).mono ?_
        rintro e wb ⟨rfl, ht, hR'⟩
        go_wp2_with fail
        refine hK.out _ _ (hC.turn ht Hoff.out) (fun hC' => ?_)
        clear hK K
        try simp only [Act.put, List.setIfInBounds_toArray, List.set_cons_zero, List.set_cons_succ]
        exact h9 wb ga ⟨NewZ.next hR ht hN, hR', hC'⟩
      · intro h8 h9 h10 wa ga hF
        obtain ⟨hN, hR, hC⟩ := hF
        refine wpAnyH_ready (rs := [15]) (by kernel_rfl) (by simp) ?_
        refine AllReadyH.cons rfl (fun K hK => ?_) AllReadyH.nil
        go_simp
        refine (cnum_any (K := 7) (t := 8) hR hrise (isK 7 (by decide)) (by decide) (by decide) (hC.r.cell 0)).mono ?_
        rintro e wb ⟨rfl, ht, hR'⟩
        go_wp2_with fail
        refine hK.out _ _ (hC.turn ht Hoff.out) (fun hC' => ?_)
        clear hK K
        try simp only [Act.put, List.setIfInBounds_toArray, List.set_cons_zero, List.set_cons_succ]
        exact h8 wb ga ⟨NewZ.next hR ht hN, hR', hC'⟩
      · intro h7 h8 h9 h10 wa ga hF
        obtain ⟨hN, hR, hC⟩ := hF
        refine wpAnyH_ready (rs := [13]) (by kernel_rfl) (by simp) ?_
        refine AllReadyH.cons rfl (fun K hK => ?_) AllReadyH.nil
        go_simp
        refine (cnum_any (K := 6) (t := 7) hR hrise (isK 6 (by decide)) (by decide) (by decide) (hC.r.cell 0)).mono ?_
        rintro e wb ⟨rfl, ht, hR'⟩
        go_wp2_with fail
        refine hK.out _ _ (hC.turn ht Hoff.out) (fun hC' => ?_)
        clear hK K
        try simp only [Act.put, List.setIfInBounds_toArray, List.set_cons_zero, List.set_cons_succ]
        exact h7 wb ga ⟨NewZ.next hR ht hN, hR', hC'⟩
      · intro h6 h7 h8 h9 h10 wa ga hF
        obtain ⟨hN, hR, hC⟩ := hF
        refine wpAnyH_ready (rs := [11]) (by kernel_rfl) (by simp) ?_
        refine AllReadyH.cons rfl (fun K hK => ?_) AllReadyH.nil
        go_simp
        refine (cnum_any (K := 5) (t := 6) hR hrise (isK 5 (by decide)) (by decide) (by decide) (hC.r.cell 0)).mono ?_
        rintro e wb ⟨rfl, ht, hR'⟩
        go_wp2_with fail
        refine hK.out _ _ (hC.turn ht Hoff.out) (fun hC' => ?_)
        clear hK K
        try simp only [Act.put, List.setIfInBounds_toArray, List.set_cons_zero, List.set_cons_succ]
        exact h6 wb ga ⟨NewZ.next hR ht hN, hR', hC'⟩
      · intro h5 h6 h7 h8 h9 h10 wa ga hF
        obtain ⟨hN, hR, hC⟩ := hF
        refine wpAnyH_ready (rs := [9]) (by kernel_rfl) (by simp) ?_
        refine AllReadyH.cons rfl (fun K hK => ?_) AllReadyH.nil
        go_simp
        refine (cnum_any (K := 4) (t := 5) hR hrise (isK 4 (by decide)) (by decide) (by decide) (hC.r.cell 0)).mono ?_
        rintro e wb ⟨rfl, ht, hR'⟩
        go_wp2_with fail
        refine hK.out _ _ (hC.turn ht Hoff.out) (fun hC' => ?_)
        clear hK K
        try simp only [Act.put, List.setIfInBounds_toArray, List.set_cons_zero, List.set_cons_succ]
        exact h5 wb ga ⟨NewZ.next hR ht hN, hR', hC'⟩
      · intro h4 h5 h6 h7 h8 h9 h10 wa ga hF
        obtain ⟨hN, hR, hC⟩ := hF
        refine wpAnyH_ready (rs := [7]) (by kernel_rfl) (by simp) ?_
        refine AllReadyH.cons rfl (fun K hK => ?_) AllReadyH.nil
        go_simp
        refine (cnum_any (K := 3) (t := 4) hR hrise (isK 3 (by decide)) (by decide) (by decide) (hC.r.cell 0)).mono ?_
        rintro e wb ⟨rfl, ht, hR'⟩
        go_wp2_with fail
        refine hK.out _ _ (hC.turn ht Hoff.out) (fun hC' => ?_)
        clear hK K
        try simp only [Act.put, List.setIfInBounds_toArray, List.set_cons_zero, List.set_cons_succ]
        exact h4 wb ga ⟨NewZ.next hR ht hN, hR', hC'⟩
      · intro h3 h4 h5 h6 h7 h8 h9 h10 wa ga hF
        obtain ⟨hN, hR, hC⟩ := hF
        refine wpAnyH_ready (rs := [5]) (by kernel_rfl) (by simp) ?_
        refine AllReadyH.cons rfl (fun K hK => ?_) AllReadyH.nil
        go_simp
        refine (cnum_any (K := 2) (t := 3) hR hrise (isK 2 (by decide)) (by decide) (by decide) (hC.r.cell 0)).mono ?_
        rintro e wb ⟨rfl, ht, hR'⟩
        go_wp2_with fail
        refine hK.out _ _ (hC.turn ht Hoff.out) (fun hC' => ?_)
        clear hK K
        try simp only [Act.put, List.setIfInBounds_toArray, List.set_cons_zero, List.set_cons_succ]
        exact h3 wb ga ⟨NewZ.next hR ht hN, hR', hC'⟩
      · intro h2 h3 h4 h5 h6 h7 h8 h9 h10 wa ga hF
        obtain ⟨hN, hR, hC⟩ := hF
        refine wpAnyH_ready (rs := [3]) (by kernel_rfl) (by simp) ?_
        refine AllReadyH.cons rfl (fun K hK => ?_) AllReadyH.nil
        go_simp
        refine (cnum_any (K := 1) (t := 2) hR hrise (isK 1 (by decide)) (by decide) (by decide) (hC.r.cell 0)).mono ?_
        rintro e wb ⟨rfl, ht, hR'⟩
        go_wp2_with fail
        refine hK.out _ _ (hC.turn ht Hoff.out) (fun hC' => ?_)
        clear hK K
        try simp only [Act.put, List.setIfInBounds_toArray, List.set_cons_zero, List.set_cons_succ]
        exact h2 wb ga ⟨NewZ.next hR ht hN, hR', hC'⟩
      · intro h1 h2 h3 h4 h5 h6 h7 h8 h9 h10 wa ga hF
        obtain ⟨hN, hR, hC⟩ := hF
        refine wpAnyH_ready (rs := [1]) (by kernel_rfl) (by simp) ?_
        refine AllReadyH.cons rfl (fun K hK => ?_) AllReadyH.nil
        go_simp
        refine (cnum_any (K := 0) (t := 1) hR hrise (isK 0 (by decide)) (by decide) (by decide) (hC.r.cell 0)).mono ?_
        rintro e wb ⟨rfl, ht, hR'⟩
        go_wp2_with fail
        refine hK.out _ _ (hC.turn ht Hoff.out) (fun hC' => ?_)
        clear hK K
        try simp only [Act.put, List.setIfInBounds_toArray, List.set_cons_zero, List.set_cons_succ]
        exact h1 wb ga ⟨NewZ.next hR ht hN, hR', hC'⟩
--DEC5 WALK END
    case rest =>
      obtain ⟨gs, rfl, hgs, hB, hC, hR⟩ := hcut
      have HF := Lib.hid hft
      have Hr := Lib.hid hrise
      obtain ⟨W0, hW0⟩ : ∃ W0, W0 = w.alloc (.cells (stcells zeroSt none 0) 77) := ⟨_, rfl⟩
      have hwW : Ext w W0 := by rw [hW0]; exact ExtA (Ext.rfl' w)
      have hqW : w.heap.size < W0.heap.size := by rw [hW0]; simp
      rw [← hW0] at hR hgs
      clear hW0 Hoff hK0 hR0 hx1 hft hrise
      go_wp2_with fail
      go_loopw [8, 48] (fun c8 c48 wr => CdR W0 w.heap.size w1.heap.size g b gs fs c8 c48 wr) (fun _ c48 _ => 16 - (intOf c48).toNat)
      case atStart => exact ⟨0, none, 0, rfl, by omega, rfl, hR, hC, hB, World.ownsRow_nil _ _ _ _⟩
      case round =>
        obtain ⟨k, A, c, rfl, hk, rfl, hR, hC, hB, ho⟩ := hrel
        have hK16 : (runOf fs).length ≤ 16 := run_len fs 16 12
        have hrp : wr.cell? ⟨w1.heap.size, 0, none⟩ = some (.pointer (some ⟨g, 0, none⟩)) := hC.r.cell 0
        have HR := Lib.hid hR
        have HC := Lib.hid hC
        have HB := Lib.hid hB
        have HO := Lib.hid ho
        have HK16 := Lib.hid hK16
        clear hR hC hB ho
        by_cases hlt : k < (runOf fs).length
        · have hk16 : k < 16 := by omega
          obtain ⟨hr1, hr2⟩ := run_at fs 16 12 k hlt
          have hr3 : textAt fs (12 + (k : Int)) = (runOf fs)[k] := hr1
          have HS1 := Lib.hid (stK_succ hlt)
          have HS2 := Lib.hid (okK_succ hlt)
          have HT := Lib.hid (rs_text (K := 11 + (k : Int)) (t := 12 + (k : Int)) HR.out Hr.out ⟨by omega, by omega⟩ (by omega) (by omega))
          rw [hr3] at HT hr2
          have HL := Lib.hid (stK_len (fs := fs) (k := k) hk)
          have Hk := Lib.hid hk
          have hne : 0 < (runOf fs)[k].length := by
            rcases Nat.eq_zero_or_pos (runOf fs)[k].length with h0 | h0
            · exact absurd (List.eq_nil_of_length_eq_zero h0) hr2
            · exact h0
          have HLT := Lib.hid hlt
          generalize (runOf fs)[k] = tx at *
          clear hr1 hr2 hr3 hk hK16 hlt
          have hok1 : okK fs (k + 1) = (okK fs k && (unl tx).2) := HS2.out
          have HOK := Lib.hid hok1
          clear hok1 HS2
          have KU : Hid (∀ (W : World) (A1 : Option Addr) (c1 : Nat), Rd W A1 tx.length (u8s tx) → tx.length ≤ c1 → tx.length ≤ maxLen → Calls Tryz.prog 137 #[.slice A1 tx.length c1] W fun e w' => e = .returned (.tuple #[.agg #[.int .i64 (unl tx).1.item, .int .i64 (unl tx).1.price, .int .i64 (unl tx).1.qty, .int .i64 (unl tx).1.shipped], .bool (unl tx).2]) ∧ Ext W w') := Lib.hid fun W A1 c1 h1 h2 h3 => unline_any A1 tx.length c1 tx W h1 h2 h3
          generalize unl tx = U at *
          obtain ⟨⟨li, lp, lq, lsh⟩, B2⟩ := U
          dsimp only at KU HOK HS1
          generalize tx.length = n1 at *
          have tn : ((n1 : Int) == 0) = false := by simp; omega
          clear hne
          generalize okK fs k = B1 at *
          have hal2 := hal
          go_wp2_with (first
            | (go_at_call 136; (with_reducible refine (HT.out).mono ?_); rintro e w2 ⟨A1, c1, rfl, ht2, hR2, hrd2, hnc2, hnm2⟩; have HR2 := Lib.hid hR2; have HC2 := Lib.hid (HC.out.turn ht2 ⟨HR.out.off HC.out.z (by decide), HR.out.off HC.out.r (by decide)⟩); have HB2 := Lib.hid (ht2.blk HB.out (HR.out.off HB.out (by decide))); have HO2 := Lib.hid (show OwnLs w2 W0.heap.size A _ c from ht2.own HO.out (HR.out.offRow HO.out (by decide))); clear ht2 hR2)
            | (go_at_call 137; (with_reducible refine (KU.out _ _ _ hrd2 hnc2 hnm2).mono ?_); rintro e w3 ⟨rfl, hx3⟩; have HB3 := Lib.hid (BlkE HB2.out hx3); have b5 : ∀ ob, (w3.alloc ob).cell? ⟨gs, 5, none⟩ = some (.slice A k c) := (fun ob => ((BlkA HB3.out).cell 5).trans (by show some (Value.slice A (stK fs k).lines.length c) = _; unfold stK; dsimp only; rw [HL.out])); have O3 := Lib.hid (show w3.ownsRow W0.heap.size 79 4 (.slice A k c) k (lnCells (((runOf fs).take k).map fun b => (unl b).1)) from (by have := own_ext hx3 HO2.out; unfold OwnLs at this; rw [HL.out] at this; exact this)); have hz3 := Lib.hid (HR2.out.x.tr hx3).size)
            | (at_builtin; refine wpL_append rfl (.tmp 68) (.tmp 70) 75 rfl W0.heap.size 79 _ 4 32 Tryz.underlying75 el_ln _ k _ rfl ((O3.out.alloc _).alloc _) _ 1 1 _ rfl (rdL_new _ li lp lq lsh _ (by simp)) (lnCells_one _) (k + 1) _ rfl rfl (by simp only [maxLen]; omega) (by omega) (by have := hz3.out; simp; omega) ?_; intro v5 w5 hown5 hg5 hl5; obtain ⟨A5, c5, rfl⟩ := own_slice hown5; obtain ⟨hR5, hC5, hB5⟩ := cd_app (q := w.heap.size) (rp := w1.heap.size) (gs := gs) (cs := stcells (stK fs k) A c) ((HR2.out.up hx3).up (ExtA (ExtA (Ext.rfl' _)))) ((HC2.out.ext hx3).ext (ExtA (ExtA (Ext.rfl' _)))) hqW (BlkA (BlkA HB3.out)) (show OwnLs _ W0.heap.size A (((runOf fs).take k).map fun b => (unl b).1) c from own_ext (hx3.tr (ExtA (ExtA (Ext.rfl' _)))) HO2.out) HL.out hg5; have HR5 := Lib.hid hR5; have HC5 := Lib.hid hC5; have HB5 := Lib.hid hB5; have O5 := Lib.hid hown5; clear hR5 hC5 hB5 hown5 hg5 hl5; have z5 : w5.cell? ⟨gs, 5, none⟩ = some (.slice A k c) := (HB5.out.cell 5).trans (by show some (Value.slice A (stK fs k).lines.length c) = _; unfold stK; dsimp only; rw [HL.out]); have y5 : w5.frozen? ⟨gs, 5, none⟩ = false := HB5.out.frozen 5))
          all_goals
            have hlt := HLT.out
            have hln : (((runOf fs).take (k + 1)).map fun b => (unl b).1).length = k + 1 := stK_len (by omega)
            have HO5 : Hid (OwnLs w5 W0.heap.size A5 (((runOf fs).take (k + 1)).map fun b => (unl b).1) c5) := Lib.hid (by unfold OwnLs; rw [hln, HS1.out, lnCells_app]; exact O5.out)
            obtain ⟨hR6, hC6, hO6⟩ := cd_set (k := 5) (v := .slice A5 (k + 1) c5) HR5.out HC5.out hqW hgs HB5.out HO5.out
            have hB6 : Blk (w5.setCell ⟨gs, 5, none⟩ (.slice A5 (k + 1) c5)) gs 77 (stcells (stK fs (k + 1)) A5 c5) := Blk_eq (BlkS HB5.out) (by unfold stcells stK; dsimp only; rw [hln]; rfl)
            have HX6 := Lib.hid (And.intro hR6 (And.intro hC6 (And.intro hB6 hO6)))
            clear hR6 hC6 hO6 hB6 hlt hln
            go_roundw
            case rel => exact ⟨k + 1, A5, c5, by go_num, HLT.out, by first | (rw [HOK.out]; rfl) | (rw [HOK.out]; simp [*]), by have := HX6.out.1; rw [show (11 : Int) + ((k + 1 : Nat) : Int) = 12 + (k : Int) by omega]; exact this, HX6.out.2.1, HX6.out.2.2.1, HX6.out.2.2.2⟩
            case measure => simp [intOf]; omega
        · obtain rfl : k = (runOf fs).length := by omega
          have hln := stK_len (fs := fs) (k := (runOf fs).length) (Nat.le_refl _)
          rw [okK_all]
          rw [List.take_length] at HO
          rw [stK_all] at HB
          have KE := Lib.hid fun (W : World) (h : RS W0 W g b fs (lastK fs)) => rs_err h
          have hfe : errK fs (lastK fs) = formE fs := rfl
          rw [hfe] at KE
          have HQ : Hid (formE fs ≠ 0 → canD l = (zeroSt, formE fs)) := Lib.hid fun h => by unfold canD; rw [← HD.out]; simp [h]
          have HQ2 : Hid (formE fs = 0 → ¬ (allOk fs = true ∧ validB (stOf fs) = true) → canD l = (zeroSt, 40)) := Lib.hid fun h h2 => by unfold canD; rw [← HD.out]; simp only [ne_eq, not_true_eq_false, if_false, h]; rw [if_neg h2]
          have HQ3 : Hid (formE fs = 0 → allOk fs = true → validB (stOf fs) = true → canD l = (stOf fs, 0)) := Lib.hid fun h h2 h3 => by unfold canD; rw [← HD.out]; simp only [ne_eq, not_true_eq_false, if_false, h]; rw [if_pos ⟨h2, h3⟩]
          have hlk : lastK fs = 11 + (if (runOf fs).length < 16 then (runOf fs).length + 1 else 16 : Nat) := rfl
          have hvl : (stOf fs).lines.length ≤ 16 := by unfold stOf; simp only [List.length_map]; exact HK16.out
          have hvw : (stOf fs).who.size ≤ 200 := by
            have := textAt_len HF.out 11
            unfold stOf ByteArray.size
            simpa using this
          have KV := Lib.hid fun (W : World) (h : OwnLs W W0.heap.size A (stOf fs).lines c) => valid_any (stOf fs) A c W h.rd (by omega) (by omega)
          have HO' : Hid (OwnLs wr W0.heap.size A (stOf fs).lines c) := HO
          clear HO hln hfe hvl hvw
          have HLK := Lib.hid hlk
          by_cases h16 : (runOf fs).length < 16
          · have hte : textAt fs (12 + ((runOf fs).length : Nat)) = [] := run_end fs 16 12 h16
            have HT := Lib.hid (rs_text (K := 11 + ((runOf fs).length : Int)) (t := 12 + ((runOf fs).length : Int)) HR.out Hr.out ⟨by omega, by omega⟩ (by omega) (by omega))
            rw [hte] at HT
            have hl2 : (12 : Int) + ((runOf fs).length : Int) = lastK fs := by rw [hlk, if_pos h16]; omega
            have HL2 := Lib.hid hl2
            clear hte hl2 hlk
            generalize (runOf fs).length = kk at *
            by_cases hf0 : formE fs = 0
            · have HF0 := Lib.hid hf0
              rw [hf0] at KE
              cases hok : allOk fs with
              | false =>
                have HE := Lib.hid (HQ2.out hf0 (fun h => by rw [hok] at h; cases h.1))
                clear hf0 hok
                go_wp2_with (first
                  | (go_at_call 136; (with_reducible refine (HT.out).mono ?_); rintro e w2 ⟨A1, c1, rfl, ht2, hR2, -, -, -⟩; have HR2 := Lib.hid (show RS W0 w2 g b fs (lastK fs) from (by rw [← HL2.out]; exact hR2)); have HC2 := Lib.hid (HC.out.turn ht2 ⟨HR.out.off HC.out.z (by decide), HR.out.off HC.out.r (by decide)⟩); have HB2 := Lib.hid (ht2.blk HB.out (HR.out.off HB.out (by decide))); have HO2 := Lib.hid (show OwnLs w2 W0.heap.size A (stOf fs).lines c from ht2.own HO'.out (HR.out.offRow HO'.out (by decide))); have hrp2 : w2.cell? ⟨w1.heap.size, 0, none⟩ = some (.pointer (some ⟨g, 0, none⟩)) := HC2.out.r.cell 0; clear ht2 hR2)
                  | (go_at_call 138; (with_reducible refine (KE.out _ HR2.out).mono ?_); rintro e w3 ⟨rfl, hx3⟩; have HC3 := HC2.out.ext hx3)
                  | (change wpList _ _ _ (⟨none, .store _ (.tmp 2) (.tmp 87), _, _, _, _⟩ :: _) _ _; refine wpL_store_row rfl 77 (.tmp 2) (.tmp 87) rfl w.heap.size 77 _ _ rfl rfl HC3.z rfl (s12_one _ _ _ _ _ _ _ _ _ _ _ _ _ _) 12 st_wide rfl ?_))
                refine bodyPost_ret (v := .tuple #[.agg (stcells zeroSt none 0), .int .i64 40]) (res_row_t rfl _ w.heap.size 77 _ 12 _ rfl rfl (Blk.setRow_ HC3.z) st_wide rfl) rfl ?_
                rw [HE.out]
                have hxe : Ext w w3 := hwW.tr (HR2.out.x.tr hx3)
                exact ⟨none, 0, rfl, exA, World.ownsRow_nil _ _ _ _⟩
              | true =>
                cases hv : validB (stOf fs) with
                | false =>
                  have HE := Lib.hid (HQ2.out hf0 (fun h => by rw [hv] at h; cases h.2))
                  rw [hv] at KV
                  clear hf0 hok hv
                  go_wp2_with (first
                    | (go_at_call 136; (with_reducible refine (HT.out).mono ?_); rintro e w2 ⟨A1, c1, rfl, ht2, hR2, -, -, -⟩; have HR2 := Lib.hid (show RS W0 w2 g b fs (lastK fs) from (by rw [← HL2.out]; exact hR2)); have HC2 := Lib.hid (HC.out.turn ht2 ⟨HR.out.off HC.out.z (by decide), HR.out.off HC.out.r (by decide)⟩); have HB2 := Lib.hid (ht2.blk HB.out (HR.out.off HB.out (by decide))); have HO2 := Lib.hid (show OwnLs w2 W0.heap.size A (stOf fs).lines c from ht2.own HO'.out (HR.out.offRow HO'.out (by decide))); have hrp2 : w2.cell? ⟨w1.heap.size, 0, none⟩ = some (.pointer (some ⟨g, 0, none⟩)) := HC2.out.r.cell 0; clear ht2 hR2)
                    | (go_at_call 138; (with_reducible refine (KE.out _ HR2.out).mono ?_); rintro e w3 ⟨rfl, hx3⟩; have HC3 := HC2.out.ext hx3; have HB3 := BlkE HB2.out hx3; have HO3 := Lib.hid (show OwnLs w3 W0.heap.size A (stOf fs).lines c from own_ext hx3 HO2.out))
                    | (with_reducible refine wpL_load_row_w (by kernel_rfl) 77 (.tmp 7) rfl _ 77 _ 12 rfl HB3 st_wide (st12_size _ _ _) ?_)
                    | (go_at_call 117; (with_reducible refine (KV.out _ HO3.out).mono ?_); rintro e w4 ⟨rfl, hx4⟩; have HC4 := HC3.ext hx4)
                    | (change wpList _ _ _ (⟨none, .store _ (.tmp 2) (.tmp 87), _, _, _, _⟩ :: _) _ _; refine wpL_store_row rfl 77 (.tmp 2) (.tmp 87) rfl w.heap.size 77 _ _ rfl rfl HC4.z rfl (s12_one _ _ _ _ _ _ _ _ _ _ _ _ _ _) 12 st_wide rfl ?_))
                  refine bodyPost_ret (v := .tuple #[.agg (stcells zeroSt none 0), .int .i64 40]) (res_row_t rfl _ w.heap.size 77 _ 12 _ rfl rfl (Blk.setRow_ HC4.z) st_wide rfl) rfl ?_
                  rw [HE.out]
                  have hxe : Ext w w4 := hwW.tr ((HR2.out.x.tr hx3).tr hx4)
                  exact ⟨none, 0, rfl, exA, World.ownsRow_nil _ _ _ _⟩
                | true =>
                  have HE := Lib.hid (HQ3.out hf0 hok hv)
                  rw [hv] at KV
                  clear hf0 hok hv
                  go_wp2_with (first
                    | (go_at_call 136; (with_reducible refine (HT.out).mono ?_); rintro e w2 ⟨A1, c1, rfl, ht2, hR2, -, -, -⟩; have HR2 := Lib.hid (show RS W0 w2 g b fs (lastK fs) from (by rw [← HL2.out]; exact hR2)); have HC2 := Lib.hid (HC.out.turn ht2 ⟨HR.out.off HC.out.z (by decide), HR.out.off HC.out.r (by decide)⟩); have HB2 := Lib.hid (ht2.blk HB.out (HR.out.off HB.out (by decide))); have HO2 := Lib.hid (show OwnLs w2 W0.heap.size A (stOf fs).lines c from ht2.own HO'.out (HR.out.offRow HO'.out (by decide))); have hrp2 : w2.cell? ⟨w1.heap.size, 0, none⟩ = some (.pointer (some ⟨g, 0, none⟩)) := HC2.out.r.cell 0; clear ht2 hR2)
                    | (go_at_call 138; (with_reducible refine (KE.out _ HR2.out).mono ?_); rintro e w3 ⟨rfl, hx3⟩; have HC3 := HC2.out.ext hx3; have HB3 := BlkE HB2.out hx3; have HO3 := Lib.hid (show OwnLs w3 W0.heap.size A (stOf fs).lines c from own_ext hx3 HO2.out))
                    | (with_reducible refine wpL_load_row_w (by kernel_rfl) 77 (.tmp 7) rfl _ 77 _ 12 rfl HB3 st_wide (st12_size _ _ _) ?_)
                    | (go_at_call 117; (with_reducible refine (KV.out _ HO3.out).mono ?_); rintro e w4 ⟨rfl, hx4⟩; have HC4 := HC3.ext hx4; have HB4 := BlkE HB3 hx4)
                    | (with_reducible refine wpL_load_row rfl 77 (.tmp 7) rfl _ 77 _ 12 rfl HB4 st_wide (st12_size _ _ _) ?_)
                    | (change wpList _ _ _ (⟨none, .store _ (.tmp 2) (.tmp 88), _, _, _, _⟩ :: _) _ _; refine wpL_store_row rfl 77 (.tmp 2) (.tmp 88) rfl w.heap.size 77 _ _ rfl rfl HC4.z rfl (s12_one _ _ _ _ _ _ _ _ _ _ _ _ _ _) 12 st_wide rfl ?_))
                  refine bodyPost_ret (v := .tuple #[.agg (stcells (stOf fs) A c), .int .i64 0]) (res_row_t rfl _ w.heap.size 77 _ 12 _ rfl rfl (Blk.setRow_ HC4.z) st_wide rfl) rfl ?_
                  rw [HE.out]
                  have hxe : Ext w w4 := hwW.tr ((HR2.out.x.tr hx3).tr hx4)
                  have hO4 : OwnLs w4 W0.heap.size A (stOf fs).lines c := own_ext hx4 HO3.out
                  exact ⟨A, c, rfl, exA, own_base ((Turn.row (F := [w.heap.size]) (by simp)).own hO4 (fun r hr hc => blk_off hO4 HC4.z (by decide) (by rw [← List.mem_singleton.1 hc]; exact hr))) hwW.size⟩
            · have HE := Lib.hid (HQ.out hf0)
              have tf : ((formE fs : Int) != 0) = true := by simp; exact hf0
              clear hf0
              go_wp2_with (first
                | (go_at_call 136; (with_reducible refine (HT.out).mono ?_); rintro e w2 ⟨A1, c1, rfl, ht2, hR2, -, -, -⟩; have HR2 := Lib.hid (show RS W0 w2 g b fs (lastK fs) from (by rw [← HL2.out]; exact hR2)); have HC2 := Lib.hid (HC.out.turn ht2 ⟨HR.out.off HC.out.z (by decide), HR.out.off HC.out.r (by decide)⟩); have HB2 := Lib.hid (ht2.blk HB.out (HR.out.off HB.out (by decide))); have HO2 := Lib.hid (show OwnLs w2 W0.heap.size A (stOf fs).lines c from ht2.own HO'.out (HR.out.offRow HO'.out (by decide))); have hrp2 : w2.cell? ⟨w1.heap.size, 0, none⟩ = some (.pointer (some ⟨g, 0, none⟩)) := HC2.out.r.cell 0; clear ht2 hR2)
                | (go_at_call 138; (with_reducible refine (KE.out _ HR2.out).mono ?_); rintro e w3 ⟨rfl, hx3⟩; have HC3 := HC2.out.ext hx3)
                | (change wpList _ _ _ (⟨none, .store _ (.tmp 2) (.tmp 78), _, _, _, _⟩ :: _) _ _; refine wpL_store_row rfl 77 (.tmp 2) (.tmp 78) rfl w.heap.size 77 _ _ rfl rfl HC3.z rfl (s12_one _ _ _ _ _ _ _ _ _ _ _ _ _ _) 12 st_wide rfl ?_))
              refine bodyPost_ret (v := .tuple #[.agg (stcells zeroSt none 0), .int .i64 (formE fs : Nat)]) (res_row_t rfl _ w.heap.size 77 _ 12 _ rfl rfl (Blk.setRow_ HC3.z) st_wide rfl) rfl ?_
              rw [HE.out]
              have hxe : Ext w w3 := hwW.tr (HR2.out.x.tr hx3)
              exact ⟨none, 0, rfl, exA, World.ownsRow_nil _ _ _ _⟩
          · have hl2 : (11 : Int) + ((runOf fs).length : Int) = lastK fs := by rw [hlk, if_neg h16]; omega
            have HR2 := Lib.hid (show RS W0 wr g b fs (lastK fs) from (by rw [← hl2]; exact HR.out))
            have HC2 := HC
            have HB2 := HB
            have HO2 := HO'
            clear hl2 hlk
            generalize (runOf fs).length = kk at *
            by_cases hf0 : formE fs = 0
            · have HF0 := Lib.hid hf0
              rw [hf0] at KE
              cases hok : allOk fs with
              | false =>
                have HE := Lib.hid (HQ2.out hf0 (fun h => by rw [hok] at h; cases h.1))
                clear hf0 hok
                go_wp2_with (first
                  | fail
                  | (go_at_call 138; (with_reducible refine (KE.out _ HR2.out).mono ?_); rintro e w3 ⟨rfl, hx3⟩; have HC3 := HC2.out.ext hx3)
                  | (change wpList _ _ _ (⟨none, .store _ (.tmp 2) (.tmp 87), _, _, _, _⟩ :: _) _ _; refine wpL_store_row rfl 77 (.tmp 2) (.tmp 87) rfl w.heap.size 77 _ _ rfl rfl HC3.z rfl (s12_one _ _ _ _ _ _ _ _ _ _ _ _ _ _) 12 st_wide rfl ?_))
                refine bodyPost_ret (v := .tuple #[.agg (stcells zeroSt none 0), .int .i64 40]) (res_row_t rfl _ w.heap.size 77 _ 12 _ rfl rfl (Blk.setRow_ HC3.z) st_wide rfl) rfl ?_
                rw [HE.out]
                have hxe : Ext w w3 := hwW.tr (HR2.out.x.tr hx3)
                exact ⟨none, 0, rfl, exA, World.ownsRow_nil _ _ _ _⟩
              | true =>
                cases hv : validB (stOf fs) with
                | false =>
                  have HE := Lib.hid (HQ2.out hf0 (fun h => by rw [hv] at h; cases h.2))
                  rw [hv] at KV
                  clear hf0 hok hv
                  go_wp2_with (first
                    | fail
                    | (go_at_call 138; (with_reducible refine (KE.out _ HR2.out).mono ?_); rintro e w3 ⟨rfl, hx3⟩; have HC3 := HC2.out.ext hx3; have HB3 := BlkE HB2.out hx3; have HO3 := Lib.hid (show OwnLs w3 W0.heap.size A (stOf fs).lines c from own_ext hx3 HO2.out))
                    | (with_reducible refine wpL_load_row_w (by kernel_rfl) 77 (.tmp 7) rfl _ 77 _ 12 rfl HB3 st_wide (st12_size _ _ _) ?_)
                    | (go_at_call 117; (with_reducible refine (KV.out _ HO3.out).mono ?_); rintro e w4 ⟨rfl, hx4⟩; have HC4 := HC3.ext hx4)
                    | (change wpList _ _ _ (⟨none, .store _ (.tmp 2) (.tmp 87), _, _, _, _⟩ :: _) _ _; refine wpL_store_row rfl 77 (.tmp 2) (.tmp 87) rfl w.heap.size 77 _ _ rfl rfl HC4.z rfl (s12_one _ _ _ _ _ _ _ _ _ _ _ _ _ _) 12 st_wide rfl ?_))
                  refine bodyPost_ret (v := .tuple #[.agg (stcells zeroSt none 0), .int .i64 40]) (res_row_t rfl _ w.heap.size 77 _ 12 _ rfl rfl (Blk.setRow_ HC4.z) st_wide rfl) rfl ?_
                  rw [HE.out]
                  have hxe : Ext w w4 := hwW.tr ((HR2.out.x.tr hx3).tr hx4)
                  exact ⟨none, 0, rfl, exA, World.ownsRow_nil _ _ _ _⟩
                | true =>
                  have HE := Lib.hid (HQ3.out hf0 hok hv)
                  rw [hv] at KV
                  clear hf0 hok hv
                  go_wp2_with (first
                    | fail
                    | (go_at_call 138; (with_reducible refine (KE.out _ HR2.out).mono ?_); rintro e w3 ⟨rfl, hx3⟩; have HC3 := HC2.out.ext hx3; have HB3 := BlkE HB2.out hx3; have HO3 := Lib.hid (show OwnLs w3 W0.heap.size A (stOf fs).lines c from own_ext hx3 HO2.out))
                    | (with_reducible refine wpL_load_row_w (by kernel_rfl) 77 (.tmp 7) rfl _ 77 _ 12 rfl HB3 st_wide (st12_size _ _ _) ?_)
                    | (go_at_call 117; (with_reducible refine (KV.out _ HO3.out).mono ?_); rintro e w4 ⟨rfl, hx4⟩; have HC4 := HC3.ext hx4; have HB4 := BlkE HB3 hx4)
                    | (with_reducible refine wpL_load_row rfl 77 (.tmp 7) rfl _ 77 _ 12 rfl HB4 st_wide (st12_size _ _ _) ?_)
                    | (change wpList _ _ _ (⟨none, .store _ (.tmp 2) (.tmp 88), _, _, _, _⟩ :: _) _ _; refine wpL_store_row rfl 77 (.tmp 2) (.tmp 88) rfl w.heap.size 77 _ _ rfl rfl HC4.z rfl (s12_one _ _ _ _ _ _ _ _ _ _ _ _ _ _) 12 st_wide rfl ?_))
                  refine bodyPost_ret (v := .tuple #[.agg (stcells (stOf fs) A c), .int .i64 0]) (res_row_t rfl _ w.heap.size 77 _ 12 _ rfl rfl (Blk.setRow_ HC4.z) st_wide rfl) rfl ?_
                  rw [HE.out]
                  have hxe : Ext w w4 := hwW.tr ((HR2.out.x.tr hx3).tr hx4)
                  have hO4 : OwnLs w4 W0.heap.size A (stOf fs).lines c := own_ext hx4 HO3.out
                  exact ⟨A, c, rfl, exA, own_base ((Turn.row (F := [w.heap.size]) (by simp)).own hO4 (fun r hr hc => blk_off hO4 HC4.z (by decide) (by rw [← List.mem_singleton.1 hc]; exact hr))) hwW.size⟩
            · have HE := Lib.hid (HQ.out hf0)
              have tf : ((formE fs : Int) != 0) = true := by simp; exact hf0
              clear hf0
              go_wp2_with (first
                | fail
                | (go_at_call 138; (with_reducible refine (KE.out _ HR2.out).mono ?_); rintro e w3 ⟨rfl, hx3⟩; have HC3 := HC2.out.ext hx3)
                | (change wpList _ _ _ (⟨none, .store _ (.tmp 2) (.tmp 78), _, _, _, _⟩ :: _) _ _; refine wpL_store_row rfl 77 (.tmp 2) (.tmp 78) rfl w.heap.size 77 _ _ rfl rfl HC3.z rfl (s12_one _ _ _ _ _ _ _ _ _ _ _ _ _ _) 12 st_wide rfl ?_))
              refine bodyPost_ret (v := .tuple #[.agg (stcells zeroSt none 0), .int .i64 (formE fs : Nat)]) (res_row_t rfl _ w.heap.size 77 _ 12 _ rfl rfl (Blk.setRow_ HC3.z) st_wide rfl) rfl ?_
              rw [HE.out]
              have hxe : Ext w w3 := hwW.tr (HR2.out.x.tr hx3)
              exact ⟨none, 0, rfl, exA, World.ownsRow_nil _ _ _ _⟩
  · have HE := Lib.hid hE
    have HX : Hid (canD l = (zeroSt, E)) := Lib.hid (by unfold canD; rw [← hd]; simp [hE])
    have tE : ((E : Int) != 0) = true := by simp; exact hE
    clear hd
    go_enter Tryz.func88, Tryz.ntmps88
    go_wp2_with (first
      | (go_at_call 132; (with_reducible refine (KN.out _ (ExtA (Ext.rfl' _))).mono ?_); rintro e w1 ⟨hx1, ⟨_, rfl⟩ | ⟨h0, _⟩⟩; rotate_left 1; (exact absurd h0 HE.out))
      | (change wpList _ _ _ (⟨none, .store _ (.tmp 2) (.tmp 21), _, _, _, _⟩ :: _) _ _; refine wpL_store_row rfl 77 (.tmp 2) (.tmp 21) rfl w.heap.size 77 _ _ rfl rfl (BlkA (BlkE (BlkN rfl) hx1)) rfl (s12_one _ _ _ _ _ _ _ _ _ _ _ _ _ _) 12 st_wide rfl ?_))
    refine bodyPost_ret (v := .tuple #[.agg (stcells zeroSt none 0), .int .i64 (E : Nat)]) (res_row_t rfl _ w.heap.size 77 _ 12 _ rfl rfl (Blk.setRow_ (BlkA (BlkE (BlkN rfl) hx1))) st_wide rfl) rfl ?_
    rw [HX.out]
    exact ⟨none, 0, rfl, exA, World.ownsRow_nil _ _ _ _⟩
end Go.Proofs.YtjajbbgebblalaaGreatDoor
