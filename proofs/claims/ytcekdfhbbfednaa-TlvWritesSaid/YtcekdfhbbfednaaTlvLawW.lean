/-
  The walk of the law TlvWrites.
-/
import Derived.Test.YtcekdfhbbfednaaTlvLawB
import Derived.Test.YtcekdfhbbfednaaWrW
import Derived.Test.YtcekdfhbbfednaaPutO
import Derived.Lib.Builder
namespace Go.Proofs.Ytcekdfhbbfednaa
open Go.RowKit
set_option linter.unusedVariables false
set_option linter.unusedSimpArgs false
theorem rd_nil8 (w : World) : Rd w none 0 (u8s []) := Rd.nil_ _ _
def WrR (W : World) (g : Nat) (S : List HP) (Ap : Option Addr) (np cp : Nat) (c4 c5 c6 c34 : Value) (wr : World) : Prop :=
  ∃ (k : Nat) (A4 : Option Addr) (n4 c4' : Nat) (hs4 : List Held) (bad : Nat) (Aw : Option Addr) (nw cw : Nat) (hsw : List Held),
    c34 = .int .i64 (k : Nat) ∧ k ≤ S.length ∧ c4 = .slice A4 n4 c4' ∧ c5 = .int .i64 (lastT (hs4.map (·.1))) ∧ c6 = .int .i64 (bad : Nat) ∧ Kept (hs4.map (·.1), bad) ∧
    Ext W wr ∧ WrB wr g Aw nw cw bad ∧ OwnFs wr W.heap.size A4 n4 c4' hs4 ∧ OwnFs wr W.heap.size Aw nw cw hsw ∧ hsw.map (·.1) = hs4.map (·.1) ∧ (∀ r ∈ blkOf A4, r ∉ blkOf Aw) ∧
    wr.ownsRow W.heap.size 48 4 (.slice Ap np cp) np (ptCells S)
set_option maxRecDepth 100000 in
set_option maxHeartbeats 8000000 in
theorem tlvWrites_walk (A : Option Addr) (c : Nat) (scr : List HP) (w : World) (hp : PtsRd w A scr) (hn : scr.length * 48 ≤ 140737488351232) :
    Calls Try.prog 10 #[.slice A scr.length c] w fun e w' => e = .returned (.bool true) ∧ Ext w w' := by
  have Hrd := Lib.hid hp.1
  have Hn := Lib.hid hn
  have HZ := Lib.hid fun (W : World) => (show RdN (W.alloc (.cells #[.int .i64 3, .int .i64 0, .int .i64 0, .slice none 0 0] 48)) 4 (some ⟨W.heap.size, 0, none⟩) 1 (ptCells [(⟨3, 0, 0, []⟩, none, 0)]) from ⟨rfl, fun _ => (rd_new W #[.int .i64 3, .int .i64 0, .int .i64 0, .slice none 0 0] 48).2 (by simp)⟩)
  have HE : Hid (∀ (W : World) (g : Nat), W.heap.size = g → w.heap.size ≤ W.heap.size → (W.alloc (.cells #[] 48)).ownsRow w.heap.size 48 4 (.slice (some ⟨g, 0, none⟩) 0 0) 0 (ptCells [])) := Lib.hid fun W g hg hW => by subst hg; exact own_new W w.heap.size #[] _ 0 hW (by decide) rfl
  have KW := Lib.hid fun W => newWriter_any W
  have KH := Lib.hid fun W => head_any W
  have HS : Hid (∀ h ∈ scr ++ [((⟨3, 0, 0, []⟩ : Pt), none, 0)], Rd w h.2.1 h.1.b.length (u8s h.1.b) ∧ h.1.wf) := Lib.hid fun h hh => by
    rcases List.mem_append.1 hh with hh | hh
    · exact hp.2 h hh
    · rw [List.mem_singleton.1 hh]
      exact ⟨Rd.nil_ _ _, ⟨by decide, by decide⟩, ⟨by decide, by decide⟩, ⟨by decide, by decide⟩, by decide⟩
  clear hp hn
  go_enter Try.func10, Try.ntmps10
  go_wp2_with (first
    | (go_at_call 23; (with_reducible refine (KW.out _).mono ?_); rintro e w1 ⟨rfl, hx1, hb1⟩; have B1 := Lib.hid hb1)
    | (go_at_call 16; (with_reducible refine (KH.out _).mono ?_); rintro e w2 ⟨rfl, hx2⟩)
    | (change wpList _ _ _ (⟨some 29, _, _, _, _, _⟩ :: _) _ _; go_loud (first | refine wpP_append (l := []) rfl (.tmp 27) (.tmp 28) rfl w.heap.size (Below.size (B := w.heap.size) (w := w) (by repeat (first | with_reducible exact Below.refl _ _ | with_reducible assumption | with_reducible refine ExtD ?_ | with_reducible refine ExtDN ?_ | with_reducible refine ExtA ?_ | (with_reducible refine ExtR ?_ ?_; (first | omega | (dsimp only; omega) | (simp; done) | (simp; omega))) | (with_reducible refine ExtS ?_ ?_; (first | omega | (dsimp only; omega) | (simp; done) | (simp; omega))) | with_reducible refine Ext.tr ?_ (by with_reducible assumption)))) rfl (HE.out _ _ (by simp) (Below.size (B := w.heap.size) (w := w) (by repeat (first | with_reducible exact Below.refl _ _ | with_reducible assumption | with_reducible refine ExtD ?_ | with_reducible refine ExtDN ?_ | with_reducible refine ExtA ?_ | (with_reducible refine ExtR ?_ ?_; (first | omega | (dsimp only; omega) | (simp; done) | (simp; omega))) | (with_reducible refine ExtS ?_ ?_; (first | omega | (dsimp only; omega) | (simp; done) | (simp; omega))) | with_reducible refine Ext.tr ?_ (by with_reducible assumption))))) rfl (Hrd.out.ext (by repeat (first | with_reducible exact Below.refl _ _ | with_reducible assumption | with_reducible refine ExtD ?_ | with_reducible refine ExtDN ?_ | with_reducible refine ExtA ?_ | (with_reducible refine ExtR ?_ ?_; (first | omega | (dsimp only; omega) | (simp; done) | (simp; omega))) | (with_reducible refine ExtS ?_ ?_; (first | omega | (dsimp only; omega) | (simp; done) | (simp; omega))) | with_reducible refine Ext.tr ?_ (by with_reducible assumption)))) (by have := Hn.out; simp; omega) ?_); intro A3 n3 c3 w3 hn3 ho3 ht3 hb3; have O3 := Lib.hid ho3; clear ho3; have hz3 : w.heap.size ≤ w3.heap.size := Nat.le_trans (Below.size (B := w.heap.size) (w := w) (by repeat (first | with_reducible exact Below.refl _ _ | with_reducible assumption | with_reducible refine ExtD ?_ | with_reducible refine ExtDN ?_ | with_reducible refine ExtA ?_ | (with_reducible refine ExtR ?_ ?_; (first | omega | (dsimp only; omega) | (simp; done) | (simp; omega))) | (with_reducible refine ExtS ?_ ?_; (first | omega | (dsimp only; omega) | (simp; done) | (simp; omega))) | with_reducible refine Ext.tr ?_ (by with_reducible assumption)))) ht3.size)
    | (change wpList _ _ _ (⟨some 32, _, _, _, _, _⟩ :: _) _ _; refine wpP_append rfl (.tmp 29) (.tmp 31) rfl w.heap.size (Nat.le_trans hz3 (by simp)) rfl (O3.out.alloc _) rfl (HZ.out _) (by have := Hn.out; simp; omega) ?_; intro Ap np cp w4 hn4 ho4 ht4 hb4; have O4 := Lib.hid ho4; clear ho4))
  have hg1 : w.heap.size < w1.heap.size := B1.out.lt
  have hg2 := hx2.size
  have hT : Turn [w2.heap.size + 1] ((w2.alloc (.cells #[] 29)).alloc (.cells #[] 48)) w4 := Turn.trans (F := [w2.heap.size + 1]) (Turn.tr ht3 ((ExtA (Ext.rfl' w3)).turn _)) ht4 (fun r hr => (hb3 r hr).imp id id)
  have hX4 : Ext w w4 := hT.ext (ExtA (ExtA (Ext.tr hx1 hx2))) (fun r hr => by rw [List.mem_singleton.1 hr]; omega)
  have hB4 := hT.blk (BlkA (o := .cells #[] 48) (BlkA (o := .cells #[] 29) (BlkE B1.out hx2))) (by rw [List.mem_singleton]; omega)
  have hO4 : w4.ownsRow w.heap.size 29 4 (.slice (some ⟨w2.heap.size, 0, none⟩) 0 0) 0 (fsCells []) := hT.own ((own_new w2 w.heap.size #[] _ 0 (by omega) (by decide) rfl).alloc _) (fun r hr => by
    simp [Value.ownBlock] at hr
    subst hr
    simp)
  have hnp : np = scr.length + 1 := by rw [hn4.out]; rfl
  subst hnp
  have HLS : Hid ((scr ++ [((⟨3, 0, 0, []⟩ : Pt), (none : Option Addr), 0)]).length = scr.length + 1) := Lib.hid (by simp)
  have O : w4.ownsRow w.heap.size 48 4 (.slice Ap (scr.length + 1) cp) (scr.length + 1) (ptCells (scr ++ [((⟨3, 0, 0, []⟩ : Pt), (none : Option Addr), 0)])) := O4.out
  clear hn4 ht3 hb3 ht4 hb4 hT O3 O4 B1 hg1 hn3 hx2 hz3
  generalize scr ++ [((⟨3, 0, 0, []⟩ : Pt), (none : Option Addr), 0)] = S at *
  have hnS : (scr.length + 1) * 48 ≤ 140737488355328 := by have := Hn.out; omega
  have hSl := HLS.out
  rw [← hSl] at O hnS ⊢
  clear hSl HLS
  have HnS := Lib.hid hnS
  clear hnS
  go_loopw [4, 5, 6, 34] (fun d4 d5 d6 d34 wr => WrR w w.heap.size S Ap S.length cp d4 d5 d6 d34 wr) (fun _ _ _ d34 _ => S.length - (intOf d34).toNat)
  case atStart => exact ⟨0, _, _, _, [], 0, none, 0, 0, [], rfl, by omega, rfl, rfl, rfl, kept_nil, hX4, hB4, ⟨hO4, fun h hh => by cases hh⟩, ⟨World.ownsRow_nil _ _ _ _, fun h hh => by cases hh⟩, rfl, (fun r _ hc => by cases hc), O⟩
  case round =>
    clear hX4 hB4 hO4 O hx1 hb1 Hrd Hn HZ HE KW KH
    obtain ⟨k, A4, n4, c4, hs4, bad, Aw, nw, cw, hsw, rfl, hk, rfl, rfl, rfl, hKe, hX, hB, hO4, hOw, hmap, hdis, hOp⟩ := hrel
    by_cases hlt : k < S.length
    · obtain ⟨b, rfl, hbW, hcl⟩ := own_row_at hOp (by omega)
      obtain ⟨⟨⟨pk, tag, v, l⟩, Bp, cb⟩, hg⟩ : ∃ h, S[k]? = some h := ⟨_, List.getElem?_eq_getElem hlt⟩
      obtain ⟨hBp, hwk, hwt, hwv, hl8⟩ := HS.out _ (List.mem_of_getElem? hg)
      dsimp only at hBp hwk hwt hwv hl8
      have e0 : wr.cell? ⟨b, k * 4, none⟩ = some (.int .i64 pk) := (hcl (k * 4 + 0) _ (by rw [ptCells_at S k 0 _ hg (by omega)]; rfl)).1
      have e1 : wr.cell? ⟨b, k * 4 + 1, none⟩ = some (.int .i64 tag) := (hcl (k * 4 + 1) _ (by rw [ptCells_at S k 1 _ hg (by omega)]; rfl)).1
      have e2 : wr.cell? ⟨b, k * 4 + 2, none⟩ = some (.int .i64 v) := (hcl (k * 4 + 2) _ (by rw [ptCells_at S k 2 _ hg (by omega)]; rfl)).1
      have e3 : wr.cell? ⟨b, k * 4 + 3, none⟩ = some (.slice Bp l.length cb) := (hcl (k * 4 + 3) _ (by rw [ptCells_at S k 3 _ hg (by omega)]; rfl)).1
      have hv : IntKind.u64.wrap v = ((toU v : Nat) : Int) := by rw [IntKind.wrap_u64]; unfold toU; omega
      have KC := Lib.hid fun W (hx : Ext wr W) => copy_any Bp l.length cb l W (hBp.ext (hX.tr hx)) (by omega)
      unfold NewB at KC
      have HB := Lib.hid hB
      have HO4 := Lib.hid hO4
      have HOw := Lib.hid hOw
      have HOp := Lib.hid hOp
      have HX := Lib.hid hX
      have HK := Lib.hid hKe
      have Hwv := Lib.hid hwv
      have Hwt := Lib.hid hwt
      clear hcl hOp hO4 hOw hB hX hKe hBp hwk hwt hwv
      have hne : ∀ (a : Addr) (W : World), (binOp .neq 45 (.pointer (some a)) (.pointer (some a))).run Try.prog W = .ok (.bool false) W := fun a W => Lib.run_neq_ptr_same W a Try.underlying45 rfl
      have hbs : wr.heap.size < wr.heap.size + 1 := by omega
      have hk62 : k ≤ 2932031007403 := by have := HnS.out; omega
      have Hl31 : Hid (hsw.length ≤ 31) := Lib.hid (by have := HK.out.len; rw [← hmap] at this; simpa using this)
      have HF : Hid (∀ r ∈ w.heap.size :: blkOf Aw, r < wr.heap.size) := Lib.hid fun r hr => by
        rcases List.mem_cons.1 hr with rfl | hr
        · exact HB.out.lt
        · exact HOw.out.new.1 r hr
      have Hm := Lib.hid hmap
      have Hd := Lib.hid hdis
      clear hmap hdis
      have HP : Hid (∀ r ∈ w.heap.size :: blkOf Aw, r ≠ b) := Lib.hid fun r hr hc => by
        subst hc
        rcases List.mem_cons.1 hr with rfl | hr
        · exact blk_off HOp.out HB.out (by decide) rfl
        · have h5 := own_blkOf (n := nw) (c := cw) hr
          rcases own_ne2 HOp.out HOw.out.1 (by decide) with h6 | h6
          · cases h6
          · rw [h5] at h6; exact h6 rfl
      have HP4 : Hid (∀ r ∈ blkOf A4, r ≠ b) := Lib.hid fun r hr hc => by
        subst hc
        have h5 := own_blkOf (n := n4) (c := c4) hr
        rcases own_ne2 HOp.out HO4.out.1 (by decide) with h6 | h6
        · cases h6
        · rw [h5] at h6; exact h6 rfl
      by_cases k0 : pk = 0
      · subst k0
        have KN := Lib.hid fun W (hx : Ext wr W) => wnum_any W w.heap.size w.heap.size Aw nw cw hsw bad tag (toU v) (BlkE HB.out hx) (own_ext hx HOw.out.1) (Nat.le_trans HX.out.size hx.size) Hl31.out
        unfold AddPost at KN
        go_upto_region 38 with (first
          | (go_at_call 19; (with_reducible refine (KC.out _ (by repeat (first | with_reducible exact Below.refl _ _ | with_reducible assumption | with_reducible refine ExtD ?_ | with_reducible refine ExtDN ?_ | with_reducible refine ExtA ?_ | (with_reducible refine ExtR ?_ ?_; (first | omega | (dsimp only; omega) | (simp; done) | (simp; omega))) | (with_reducible refine ExtS ?_ ?_; (first | omega | (dsimp only; omega) | (simp; done) | (simp; omega))) | with_reducible refine Ext.tr ?_ (by with_reducible assumption)))).mono ?_); rintro e w1 ⟨A1, c1, rfl, hx1, ho1⟩; have O1 := Lib.hid ho1; clear ho1; have P8 : Blk w1 wr.heap.size 48 #[.int .i64 0, .int .i64 tag, .int .i64 v, .slice Bp l.length cb] := BlkE (BlkA (BlkN rfl)) hx1; have P9 : Blk w1 (wr.heap.size + 1) 29 #[.int .i64 tag, .bool false, .int .u64 ((toU v : Nat) : Int), .slice none 0 0] := BlkE (BlkN (by simp)) hx1; have X1 : Ext wr w1 := (by repeat (first | with_reducible exact Below.refl _ _ | with_reducible assumption | with_reducible refine ExtD ?_ | with_reducible refine ExtDN ?_ | with_reducible refine ExtA ?_ | (with_reducible refine ExtR ?_ ?_; (first | omega | (dsimp only; omega) | (simp; done) | (simp; omega))) | (with_reducible refine ExtS ?_ ?_; (first | omega | (dsimp only; omega) | (simp; done) | (simp; omega))) | with_reducible refine Ext.tr ?_ (by with_reducible assumption))); have a0 := P8.cell 0; have a1 := P8.cell 1; have a2 := P8.cell 2; have a3 := P8.cell 3)
          | (go_at_call 24; (with_reducible refine (KN.out _ X1).mono ?_); rintro e W5 ⟨rfl, hr5⟩; have H5 := Lib.hid hr5; clear hr5))
        obtain ⟨A', n', c', hs', q1, q2, q3, q4, q5, q6⟩ := H5.out
        clear a0 a1 a2 a3 P8 H5
        have P9 := q5.blk P9 (fun hc => by have := HF.out _ hc; omega)
        have O4 := Lib.hid ((HO4.out.ext' X1).turnW (BlkE HB.out X1) (own_ext X1 HOw.out.1) Hd.out q5)
        have OP := Lib.hid (q5.own (own_ext X1 HOp.out) (fun r hr hc => HP.out r hc (by simp [Value.ownBlock] at hr; exact hr.symm)))
        have HX5 := Lib.hid (q5.ext (HX.out.tr X1) (fun r hr => by
          rcases List.mem_cons.1 hr with rfl | hr
          · exact Nat.le_refl _
          · exact (HOw.out.1.lt r (own_blkOf hr)).1))
        have HN4 : Hid (wr.heap.size + 1 ∉ blkOf A4) := Lib.hid fun hc => by have := HO4.out.new.1 _ hc; omega
        have HW : Hid (∃ A' n' c' hs', WrB W5 w.heap.size A' n' c' (addW (hs4.map (·.1), bad) ⟨tag, false, toU v, []⟩).2 ∧ hs'.map (·.1) = (addW (hs4.map (·.1), bad) ⟨tag, false, toU v, []⟩).1 ∧ OwnFs W5 w.heap.size A' n' c' hs' ∧ ∀ r ∈ blkOf A4, r ∉ blkOf A') := Lib.hid (by
          rw [← Hm.out]
          exact ⟨A', n', c', hs', q1, q2, add_own (HOw.out.ext' X1) (BlkE HB.out X1) q5 q4 q3 (World.ownsRow_nil _ _ _ _), add_dis Hd.out HO4.out.new.1 X1.size q6⟩)
        clear q1 q2 q3 q4 q5 q6
        have OF : Hid (W5.ownsRow w.heap.size 5 1 (.slice none ([] : List UInt8).length 0) ([] : List UInt8).length (u8s [])) := Lib.hid (World.ownsRow_nil _ _ _ _)
        obtain ⟨x, hx⟩ : ∃ x, fault ⟨tag, false, (toU v), []⟩ (lastT (hs4.map (·.1))) = x := ⟨_, rfl⟩
        have KF : Hid (∀ W, Calls Try.prog 29 #[.agg #[.int .i64 tag, .bool false, .int .u64 (((toU v : Nat) : Int)), .slice none 0 0], .int .i64 (lastT (hs4.map (·.1)))] W fun e w' => e = .returned (.int .i64 (x : Nat)) ∧ Ext W w') := Lib.hid fun W => by
          have h := fault_any ⟨tag, false, (toU v), []⟩ none 0 (lastT (hs4.map (·.1))) W
          unfold FaultPost at h
          rw [hx] at h
          exact h
        have Hx := Lib.hid hx
        clear hx
        have y0 := P9.cell 0
        have y1 := P9.cell 1
        have y2 := P9.cell 2
        have y3 := P9.cell 3
        by_cases hbad : bad = 0
        · subst hbad
          have Hrf := Lib.hid fun (W : World) => rdF_new W _ ⟨tag, false, (toU v), []⟩ none 0 rfl
          by_cases x0 : x = 0
          · subst x0
            have hadd : addW (hs4.map (·.1), 0) ⟨tag, false, (toU v), []⟩ = (hs4.map (·.1) ++ [⟨tag, false, (toU v), []⟩], 0) := addW_ok Hx.out
            go_wp2_with (first
              | (go_at_call 29; (with_reducible refine (KF.out _).mono ?_); rintro e w6 ⟨rfl, hx6⟩; have P6 := BlkE P9 hx6; have z0 := P6.cell 0; have z1 := P6.cell 1; have z2 := P6.cell 2; have z3 := P6.cell 3)
              | (change wpList _ _ _ (⟨some 141, _, _, _, _, _⟩ :: _) _ _; refine wpFd_append rfl (.tmp 138) (.tmp 140) rfl w.heap.size (Nat.le_trans HX5.out.size (Below.size (B := W5.heap.size) (w := W5) (by repeat (first | with_reducible exact Below.refl _ _ | with_reducible assumption | with_reducible refine ExtD ?_ | with_reducible refine ExtDN ?_ | with_reducible refine ExtA ?_ | (with_reducible refine ExtR ?_ ?_; (first | omega | (dsimp only; omega) | (simp; done) | (simp; omega))) | (with_reducible refine ExtS ?_ ?_; (first | omega | (dsimp only; omega) | (simp; done) | (simp; omega))) | with_reducible refine Ext.tr ?_ (by with_reducible assumption))))) rfl ((own_ext hx6 O4.out.1).alloc _) rfl (Hrf.out _) (by have := HK.out.len; simp at this; simp; omega) ?_; intro A7 n7 c7 w7 hn7 ho7 ht7 hb7; have P7 := ht7.blk (BlkA (BlkE P9 hx6)) HN4.out; have z0 := P7.cell 0; have O7 := Lib.hid ho7; clear ho7))
            obtain ⟨A', n', c', hs', q1, q2, q3, q4⟩ := HW.out
            have hk2 := addW_kept HK.out (f := ⟨tag, false, (toU v), []⟩) ⟨Hwt.out.1, Hwt.out.2, toU_lt v⟩
            rw [hadd] at q1 q2 hk2
            have hS9 := HnS.out
            have xe := ExtA (o := .cells #[.int .i64 tag, .bool false, .int .u64 (((toU v) : Nat) : Int), .slice none 0 0] 29) hx6
            have o4e := O4.out.ext' xe
            have hb7e := BlkE q1 xe
            have hg4 := blk_notin hb7e o4e.1 (by decide)
            have ht8 : Turn (w.heap.size :: blkOf A4) _ w7 := ht7.mono (fun r hr => .inl (by simp [hr]))
            have q5 : ∀ r ∈ blkOf A', r ∉ blkOf A4 := fun r hr hc => q4 r hc hr
            have q3e := q3.ext' xe
            refine And.intro ⟨k + 1, A7, n7, c7, hs4 ++ [(⟨tag, false, (toU v), []⟩, none, 0)], 0, A', n', c', hs', by go_num, by omega, rfl, by rw [List.map_append]; simp [lastT_snoc], rfl, by rw [List.map_append]; exact hk2, ?_, ht7.blk hb7e hg4, ?_, q3e.turnW hb7e o4e.1 q5 ht8, by rw [List.map_append]; exact q2, ?_, ?_⟩ ?_
            · exact ht7.ext (HX5.out.tr xe) fun r hr => (o4e.1.lt r (own_blkOf hr)).1
            · exact add_own o4e hb7e ht8 O7.out (.inr rfl) (ht8.own (own_ext xe OF.out) (fun r hr hc => by
                rcases List.mem_cons.1 hc with rfl | hc
                · exact blk_off (own_ext xe OF.out) hb7e (by decide) hr
                · exact own_apart8 (own_ext xe OF.out) o4e.1 r (by rw [blkOf_own hr]; simp) hc))
            · exact fun r hr hc => by
                rcases hb7 r hr with h | h
                · exact q4 r h hc
                · have h1 := q3e.new.1 r hc
                  have hsz : ∀ o, (w6.alloc o).heap.size = w6.heap.size + 1 := fun o => by simp
                  rw [hsz] at h h1
                  omega
            · exact ht7.own (own_ext xe OP.out) fun r hr hc => HP4.out r hc (by simp [Value.ownBlock] at hr; exact hr.symm)
            · simp [intOf]; omega
          · by_cases x22 : x = 22
            · subst x22
              have hadd : addW (hs4.map (·.1), 0) ⟨tag, false, (toU v), []⟩ = (hs4.map (·.1), 0) := addW_zero Hx.out
              go_wp2_with (go_at_call 29; (with_reducible refine (KF.out _).mono ?_); rintro e w6 ⟨rfl, hx6⟩; have P6 := BlkE P9 hx6; have z0 := P6.cell 0; have z1 := P6.cell 1; have z2 := P6.cell 2; have z3 := P6.cell 3)
              obtain ⟨A', n', c', hs', q1, q2, q3, q4⟩ := HW.out
              have hk2 := addW_kept HK.out (f := ⟨tag, false, (toU v), []⟩) ⟨Hwt.out.1, Hwt.out.2, toU_lt v⟩
              rw [hadd] at q1 q2 hk2
              have hS9 := HnS.out
              refine And.intro ⟨k + 1, A4, n4, c4, hs4, _, A', n', c', hs', by go_num, by omega, rfl, rfl, rfl, hk2, HX5.out.tr hx6, BlkE q1 hx6, O4.out.ext' hx6, q3.ext' hx6, q2, q4, own_ext hx6 OP.out⟩ ?_
              simp [intOf]; omega
            · have t0 : ((x : Int) == 0) = false := by simp; omega
              have t1 : ((x : Int) != 22) = true := by simp; omega
              have hadd : addW (hs4.map (·.1), 0) ⟨tag, false, (toU v), []⟩ = (hs4.map (·.1), x) := by
                rw [addW_fault (by rw [Hx.out]; exact x0) (by rw [Hx.out]; exact x22), Hx.out]
              clear x0 x22
              go_wp2_with (go_at_call 29; (with_reducible refine (KF.out _).mono ?_); rintro e w6 ⟨rfl, hx6⟩; have P6 := BlkE P9 hx6; have z0 := P6.cell 0; have z1 := P6.cell 1; have z2 := P6.cell 2; have z3 := P6.cell 3)
              obtain ⟨A', n', c', hs', q1, q2, q3, q4⟩ := HW.out
              have hk2 := addW_kept HK.out (f := ⟨tag, false, (toU v), []⟩) ⟨Hwt.out.1, Hwt.out.2, toU_lt v⟩
              rw [hadd] at q1 q2 hk2
              have hS9 := HnS.out
              refine And.intro ⟨k + 1, A4, n4, c4, hs4, _, A', n', c', hs', by go_num, by omega, rfl, rfl, rfl, hk2, HX5.out.tr hx6, BlkE q1 hx6, O4.out.ext' hx6, q3.ext' hx6, q2, q4, own_ext hx6 OP.out⟩ ?_
              simp [intOf]; omega
        · have t0 : ((bad : Int) == 0) = false := by simp; omega
          have hadd : addW (hs4.map (·.1), bad) ⟨tag, false, (toU v), []⟩ = (hs4.map (·.1), bad) := addW_bad _ hbad
          clear hbad
          go_wp2_with (go_at_call 29; (with_reducible refine (KF.out _).mono ?_); rintro e w6 ⟨rfl, hx6⟩; have P6 := BlkE P9 hx6; have z0 := P6.cell 0; have z1 := P6.cell 1; have z2 := P6.cell 2; have z3 := P6.cell 3)
          obtain ⟨A', n', c', hs', q1, q2, q3, q4⟩ := HW.out
          have hk2 := addW_kept HK.out (f := ⟨tag, false, (toU v), []⟩) ⟨Hwt.out.1, Hwt.out.2, toU_lt v⟩
          rw [hadd] at q1 q2 hk2
          have hS9 := HnS.out
          refine And.intro ⟨k + 1, A4, n4, c4, hs4, _, A', n', c', hs', by go_num, by omega, rfl, rfl, rfl, hk2, HX5.out.tr hx6, BlkE q1 hx6, O4.out.ext' hx6, q3.ext' hx6, q2, q4, own_ext hx6 OP.out⟩ ?_
          simp [intOf]; omega
      · by_cases k1 : pk = 1
        · subst k1
          have KZ := Lib.hid fun W => rzig_any v Hwv.out.1 Hwv.out.2 W
          have KN := Lib.hid fun W (hx : Ext wr W) => wint_any W w.heap.size w.heap.size Aw nw cw hsw bad tag v Hwv.out.1 Hwv.out.2 (BlkE HB.out hx) (own_ext hx HOw.out.1) (Nat.le_trans HX.out.size hx.size) Hl31.out
          unfold AddPost at KN
          go_upto_region 38 with (first
            | (go_at_call 19; (with_reducible refine (KC.out _ (by repeat (first | with_reducible exact Below.refl _ _ | with_reducible assumption | with_reducible refine ExtD ?_ | with_reducible refine ExtDN ?_ | with_reducible refine ExtA ?_ | (with_reducible refine ExtR ?_ ?_; (first | omega | (dsimp only; omega) | (simp; done) | (simp; omega))) | (with_reducible refine ExtS ?_ ?_; (first | omega | (dsimp only; omega) | (simp; done) | (simp; omega))) | with_reducible refine Ext.tr ?_ (by with_reducible assumption)))).mono ?_); rintro e w1 ⟨A1, c1, rfl, hx1, ho1⟩; have O1 := Lib.hid ho1; clear ho1; have P8 : Blk w1 wr.heap.size 48 #[.int .i64 1, .int .i64 tag, .int .i64 v, .slice Bp l.length cb] := BlkE (BlkA (BlkN rfl)) hx1; have P9 : Blk w1 (wr.heap.size + 1) 29 #[.int .i64 tag, .bool false, .int .u64 ((toU v : Nat) : Int), .slice none 0 0] := BlkE (BlkN (by simp)) hx1; have a0 := P8.cell 0; have a1 := P8.cell 1; have a2 := P8.cell 2; have a3 := P8.cell 3)
            | (go_at_call 25; (with_reducible refine (KZ.out _).mono ?_); rintro e w2 ⟨rfl, hx2⟩; have P8 := BlkE P8 hx2; have P9 := BlkE P9 hx2; have a0 := P8.cell 0; have a1 := P8.cell 1; have a2 := P8.cell 2; have a3 := P8.cell 3; have v2 := P9.cell 2; have f2 := P9.frozen 2)
            | (go_at_call 26; (with_reducible refine (KN.out _ (by repeat (first | with_reducible exact Below.refl _ _ | with_reducible assumption | with_reducible refine ExtD ?_ | with_reducible refine ExtDN ?_ | with_reducible refine ExtA ?_ | (with_reducible refine ExtR ?_ ?_; (first | omega | (dsimp only; omega) | (simp; done) | (simp; omega))) | (with_reducible refine ExtS ?_ ?_; (first | omega | (dsimp only; omega) | (simp; done) | (simp; omega))) | with_reducible refine Ext.tr ?_ (by with_reducible assumption)))).mono ?_); rintro e W5 ⟨rfl, hr5⟩; have H5 := Lib.hid hr5; clear hr5))
          obtain ⟨A', n', c', hs', q1, q2, q3, q4, q5, q6⟩ := H5.out
          have P9 : Blk (w2.setCell ⟨wr.heap.size + 1, 2, none⟩ (.int .u64 ((zig v : Nat) : Int))) (wr.heap.size + 1) 29 #[.int .i64 tag, .bool false, .int .u64 ((zig v : Nat) : Int), .slice none 0 0] := Blk_eq (BlkS P9) rfl
          have X1 : Ext wr (w2.setCell ⟨wr.heap.size + 1, 2, none⟩ (.int .u64 ((zig v : Nat) : Int))) := (by repeat (first | with_reducible exact Below.refl _ _ | with_reducible assumption | with_reducible refine ExtD ?_ | with_reducible refine ExtDN ?_ | with_reducible refine ExtA ?_ | (with_reducible refine ExtR ?_ ?_; (first | omega | (dsimp only; omega) | (simp; done) | (simp; omega))) | (with_reducible refine ExtS ?_ ?_; (first | omega | (dsimp only; omega) | (simp; done) | (simp; omega))) | with_reducible refine Ext.tr ?_ (by with_reducible assumption)))
          clear a0 a1 a2 a3 P8 H5 v2 f2
          have P9 := q5.blk P9 (fun hc => by have := HF.out _ hc; omega)
          have O4 := Lib.hid ((HO4.out.ext' X1).turnW (BlkE HB.out X1) (own_ext X1 HOw.out.1) Hd.out q5)
          have OP := Lib.hid (q5.own (own_ext X1 HOp.out) (fun r hr hc => HP.out r hc (by simp [Value.ownBlock] at hr; exact hr.symm)))
          have HX5 := Lib.hid (q5.ext (HX.out.tr X1) (fun r hr => by
            rcases List.mem_cons.1 hr with rfl | hr
            · exact Nat.le_refl _
            · exact (HOw.out.1.lt r (own_blkOf hr)).1))
          have HN4 : Hid (wr.heap.size + 1 ∉ blkOf A4) := Lib.hid fun hc => by have := HO4.out.new.1 _ hc; omega
          have HW : Hid (∃ A' n' c' hs', WrB W5 w.heap.size A' n' c' (addW (hs4.map (·.1), bad) ⟨tag, false, zig v, []⟩).2 ∧ hs'.map (·.1) = (addW (hs4.map (·.1), bad) ⟨tag, false, zig v, []⟩).1 ∧ OwnFs W5 w.heap.size A' n' c' hs' ∧ ∀ r ∈ blkOf A4, r ∉ blkOf A') := Lib.hid (by
            rw [← Hm.out]
            exact ⟨A', n', c', hs', q1, q2, add_own (HOw.out.ext' X1) (BlkE HB.out X1) q5 q4 q3 (World.ownsRow_nil _ _ _ _), add_dis Hd.out HO4.out.new.1 X1.size q6⟩)
          clear q1 q2 q3 q4 q5 q6
          have OF : Hid (W5.ownsRow w.heap.size 5 1 (.slice none ([] : List UInt8).length 0) ([] : List UInt8).length (u8s [])) := Lib.hid (World.ownsRow_nil _ _ _ _)
          obtain ⟨x, hx⟩ : ∃ x, fault ⟨tag, false, (zig v), []⟩ (lastT (hs4.map (·.1))) = x := ⟨_, rfl⟩
          have KF : Hid (∀ W, Calls Try.prog 29 #[.agg #[.int .i64 tag, .bool false, .int .u64 (((zig v : Nat) : Int)), .slice none 0 0], .int .i64 (lastT (hs4.map (·.1)))] W fun e w' => e = .returned (.int .i64 (x : Nat)) ∧ Ext W w') := Lib.hid fun W => by
            have h := fault_any ⟨tag, false, (zig v), []⟩ none 0 (lastT (hs4.map (·.1))) W
            unfold FaultPost at h
            rw [hx] at h
            exact h
          have Hx := Lib.hid hx
          clear hx
          have y0 := P9.cell 0
          have y1 := P9.cell 1
          have y2 := P9.cell 2
          have y3 := P9.cell 3
          by_cases hbad : bad = 0
          · subst hbad
            have Hrf := Lib.hid fun (W : World) => rdF_new W _ ⟨tag, false, (zig v), []⟩ none 0 rfl
            by_cases x0 : x = 0
            · subst x0
              have hadd : addW (hs4.map (·.1), 0) ⟨tag, false, (zig v), []⟩ = (hs4.map (·.1) ++ [⟨tag, false, (zig v), []⟩], 0) := addW_ok Hx.out
              go_wp2_with (first
                | (go_at_call 29; (with_reducible refine (KF.out _).mono ?_); rintro e w6 ⟨rfl, hx6⟩; have P6 := BlkE P9 hx6; have z0 := P6.cell 0; have z1 := P6.cell 1; have z2 := P6.cell 2; have z3 := P6.cell 3)
                | (change wpList _ _ _ (⟨some 141, _, _, _, _, _⟩ :: _) _ _; refine wpFd_append rfl (.tmp 138) (.tmp 140) rfl w.heap.size (Nat.le_trans HX5.out.size (Below.size (B := W5.heap.size) (w := W5) (by repeat (first | with_reducible exact Below.refl _ _ | with_reducible assumption | with_reducible refine ExtD ?_ | with_reducible refine ExtDN ?_ | with_reducible refine ExtA ?_ | (with_reducible refine ExtR ?_ ?_; (first | omega | (dsimp only; omega) | (simp; done) | (simp; omega))) | (with_reducible refine ExtS ?_ ?_; (first | omega | (dsimp only; omega) | (simp; done) | (simp; omega))) | with_reducible refine Ext.tr ?_ (by with_reducible assumption))))) rfl ((own_ext hx6 O4.out.1).alloc _) rfl (Hrf.out _) (by have := HK.out.len; simp at this; simp; omega) ?_; intro A7 n7 c7 w7 hn7 ho7 ht7 hb7; have P7 := ht7.blk (BlkA (BlkE P9 hx6)) HN4.out; have z0 := P7.cell 0; have O7 := Lib.hid ho7; clear ho7))
              obtain ⟨A', n', c', hs', q1, q2, q3, q4⟩ := HW.out
              have hk2 := addW_kept HK.out (f := ⟨tag, false, (zig v), []⟩) ⟨Hwt.out.1, Hwt.out.2, zig_lt Hwv.out.1 Hwv.out.2⟩
              rw [hadd] at q1 q2 hk2
              have hS9 := HnS.out
              have xe := ExtA (o := .cells #[.int .i64 tag, .bool false, .int .u64 (((zig v) : Nat) : Int), .slice none 0 0] 29) hx6
              have o4e := O4.out.ext' xe
              have hb7e := BlkE q1 xe
              have hg4 := blk_notin hb7e o4e.1 (by decide)
              have ht8 : Turn (w.heap.size :: blkOf A4) _ w7 := ht7.mono (fun r hr => .inl (by simp [hr]))
              have q5 : ∀ r ∈ blkOf A', r ∉ blkOf A4 := fun r hr hc => q4 r hc hr
              have q3e := q3.ext' xe
              refine And.intro ⟨k + 1, A7, n7, c7, hs4 ++ [(⟨tag, false, (zig v), []⟩, none, 0)], 0, A', n', c', hs', by go_num, by omega, rfl, by rw [List.map_append]; simp [lastT_snoc], rfl, by rw [List.map_append]; exact hk2, ?_, ht7.blk hb7e hg4, ?_, q3e.turnW hb7e o4e.1 q5 ht8, by rw [List.map_append]; exact q2, ?_, ?_⟩ ?_
              · exact ht7.ext (HX5.out.tr xe) fun r hr => (o4e.1.lt r (own_blkOf hr)).1
              · exact add_own o4e hb7e ht8 O7.out (.inr rfl) (ht8.own (own_ext xe OF.out) (fun r hr hc => by
                  rcases List.mem_cons.1 hc with rfl | hc
                  · exact blk_off (own_ext xe OF.out) hb7e (by decide) hr
                  · exact own_apart8 (own_ext xe OF.out) o4e.1 r (by rw [blkOf_own hr]; simp) hc))
              · exact fun r hr hc => by
                  rcases hb7 r hr with h | h
                  · exact q4 r h hc
                  · have h1 := q3e.new.1 r hc
                    have hsz : ∀ o, (w6.alloc o).heap.size = w6.heap.size + 1 := fun o => by simp
                    rw [hsz] at h h1
                    omega
              · exact ht7.own (own_ext xe OP.out) fun r hr hc => HP4.out r hc (by simp [Value.ownBlock] at hr; exact hr.symm)
              · simp [intOf]; omega
            · by_cases x22 : x = 22
              · subst x22
                have hadd : addW (hs4.map (·.1), 0) ⟨tag, false, (zig v), []⟩ = (hs4.map (·.1), 0) := addW_zero Hx.out
                go_wp2_with (go_at_call 29; (with_reducible refine (KF.out _).mono ?_); rintro e w6 ⟨rfl, hx6⟩; have P6 := BlkE P9 hx6; have z0 := P6.cell 0; have z1 := P6.cell 1; have z2 := P6.cell 2; have z3 := P6.cell 3)
                obtain ⟨A', n', c', hs', q1, q2, q3, q4⟩ := HW.out
                have hk2 := addW_kept HK.out (f := ⟨tag, false, (zig v), []⟩) ⟨Hwt.out.1, Hwt.out.2, zig_lt Hwv.out.1 Hwv.out.2⟩
                rw [hadd] at q1 q2 hk2
                have hS9 := HnS.out
                refine And.intro ⟨k + 1, A4, n4, c4, hs4, _, A', n', c', hs', by go_num, by omega, rfl, rfl, rfl, hk2, HX5.out.tr hx6, BlkE q1 hx6, O4.out.ext' hx6, q3.ext' hx6, q2, q4, own_ext hx6 OP.out⟩ ?_
                simp [intOf]; omega
              · have t0 : ((x : Int) == 0) = false := by simp; omega
                have t1 : ((x : Int) != 22) = true := by simp; omega
                have hadd : addW (hs4.map (·.1), 0) ⟨tag, false, (zig v), []⟩ = (hs4.map (·.1), x) := by
                  rw [addW_fault (by rw [Hx.out]; exact x0) (by rw [Hx.out]; exact x22), Hx.out]
                clear x0 x22
                go_wp2_with (go_at_call 29; (with_reducible refine (KF.out _).mono ?_); rintro e w6 ⟨rfl, hx6⟩; have P6 := BlkE P9 hx6; have z0 := P6.cell 0; have z1 := P6.cell 1; have z2 := P6.cell 2; have z3 := P6.cell 3)
                obtain ⟨A', n', c', hs', q1, q2, q3, q4⟩ := HW.out
                have hk2 := addW_kept HK.out (f := ⟨tag, false, (zig v), []⟩) ⟨Hwt.out.1, Hwt.out.2, zig_lt Hwv.out.1 Hwv.out.2⟩
                rw [hadd] at q1 q2 hk2
                have hS9 := HnS.out
                refine And.intro ⟨k + 1, A4, n4, c4, hs4, _, A', n', c', hs', by go_num, by omega, rfl, rfl, rfl, hk2, HX5.out.tr hx6, BlkE q1 hx6, O4.out.ext' hx6, q3.ext' hx6, q2, q4, own_ext hx6 OP.out⟩ ?_
                simp [intOf]; omega
          · have t0 : ((bad : Int) == 0) = false := by simp; omega
            have hadd : addW (hs4.map (·.1), bad) ⟨tag, false, (zig v), []⟩ = (hs4.map (·.1), bad) := addW_bad _ hbad
            clear hbad
            go_wp2_with (go_at_call 29; (with_reducible refine (KF.out _).mono ?_); rintro e w6 ⟨rfl, hx6⟩; have P6 := BlkE P9 hx6; have z0 := P6.cell 0; have z1 := P6.cell 1; have z2 := P6.cell 2; have z3 := P6.cell 3)
            obtain ⟨A', n', c', hs', q1, q2, q3, q4⟩ := HW.out
            have hk2 := addW_kept HK.out (f := ⟨tag, false, (zig v), []⟩) ⟨Hwt.out.1, Hwt.out.2, zig_lt Hwv.out.1 Hwv.out.2⟩
            rw [hadd] at q1 q2 hk2
            have hS9 := HnS.out
            refine And.intro ⟨k + 1, A4, n4, c4, hs4, _, A', n', c', hs', by go_num, by omega, rfl, rfl, rfl, hk2, HX5.out.tr hx6, BlkE q1 hx6, O4.out.ext' hx6, q3.ext' hx6, q2, q4, own_ext hx6 OP.out⟩ ?_
            simp [intOf]; omega
        · by_cases k2 : pk = 2
          · subst k2
            have KT := Lib.hid fun (W : World) (A1 : Option Addr) (c1 : Nat) (hA : Rd W A1 l.length (u8s l)) (hx : Ext wr W) => wtext_any W w.heap.size w.heap.size Aw nw cw hsw bad tag l A1 c1 hA (by omega) (BlkE HB.out hx) (own_ext hx HOw.out.1) (Nat.le_trans HX.out.size hx.size) Hl31.out
            unfold TextPost at KT
            have HS2 : Hid (∀ w' : World, Blk w' wr.heap.size 48 #[.int .i64 2, .int .i64 tag, .int .i64 v, .slice Bp l.length cb] → (w'.cell? ⟨wr.heap.size, 1, none⟩ = some (.int .i64 tag) ∧ w'.cell? ⟨wr.heap.size, 3, none⟩ = some (.slice Bp l.length cb))) := Lib.hid fun w' h => ⟨h.cell 1, h.cell 3⟩
            go_upto_region 31 with (first
              | (go_at_call 19; (with_reducible refine (KC.out _ (by repeat (first | with_reducible exact Below.refl _ _ | with_reducible assumption | with_reducible refine ExtD ?_ | with_reducible refine ExtDN ?_ | with_reducible refine ExtA ?_ | (with_reducible refine ExtR ?_ ?_; (first | omega | (dsimp only; omega) | (simp; done) | (simp; omega))) | (with_reducible refine ExtS ?_ ?_; (first | omega | (dsimp only; omega) | (simp; done) | (simp; omega))) | with_reducible refine Ext.tr ?_ (by with_reducible assumption)))).mono ?_); rintro e w1 ⟨A1, c1, rfl, hx1, ho1⟩; have O1 := Lib.hid ho1; clear ho1; have P8 : Blk w1 wr.heap.size 48 #[.int .i64 2, .int .i64 tag, .int .i64 v, .slice Bp l.length cb] := BlkE (BlkA (BlkN rfl)) hx1; have P9 : Blk w1 (wr.heap.size + 1) 29 #[.int .i64 tag, .bool false, .int .u64 ((toU v : Nat) : Int), .slice none 0 0] := BlkE (BlkN (by simp)) hx1; have a0 := P8.cell 0; have a1 := P8.cell 1; have a2 := P8.cell 2; have a3 := P8.cell 3))
            have X1 : Ext wr w1 := (by repeat (first | with_reducible exact Below.refl _ _ | with_reducible assumption | with_reducible refine ExtD ?_ | with_reducible refine ExtDN ?_ | with_reducible refine ExtA ?_ | (with_reducible refine ExtR ?_ ?_; (first | omega | (dsimp only; omega) | (simp; done) | (simp; omega))) | (with_reducible refine ExtS ?_ ?_; (first | omega | (dsimp only; omega) | (simp; done) | (simp; omega))) | with_reducible refine Ext.tr ?_ (by with_reducible assumption)))
            go_region_held3 (fun w' : World => w'.cell? ⟨wr.heap.size, 1, none⟩ = some (.int .i64 tag) ∧ w'.cell? ⟨wr.heap.size, 3, none⟩ = some (.slice Bp l.length cb)) (exact HS2.out _ (by repeat (first | with_reducible assumption | (with_reducible refine BlkN ?_; (first | rfl | (first | omega | (dsimp only; omega) | (simp; done) | (simp; omega)))) | with_reducible refine BlkD ?_ | with_reducible refine BlkDN ?_ | with_reducible refine BlkA ?_ | with_reducible refine BlkE ?_ (by with_reducible assumption) | with_reducible refine BlkS ?_ | (with_reducible refine BlkF ?_ ?_; (first | omega | (dsimp only; omega) | (simp; done) | (simp; omega))) | (with_reducible refine BlkR ?_ ?_; (first | omega | (dsimp only; omega) | (simp; done) | (simp; omega))))))
              ((go_at_call 19; (with_reducible refine (KC.out _ (by repeat (first | with_reducible exact Below.refl _ _ | with_reducible assumption | with_reducible refine ExtD ?_ | with_reducible refine ExtDN ?_ | with_reducible refine ExtA ?_ | (with_reducible refine ExtR ?_ ?_; (first | omega | (dsimp only; omega) | (simp; done) | (simp; omega))) | (with_reducible refine ExtS ?_ ?_; (first | omega | (dsimp only; omega) | (simp; done) | (simp; omega))) | with_reducible refine Ext.tr ?_ (by with_reducible assumption)))).mono ?_); rintro e w2 ⟨A2, c2, rfl, hx2, ho2⟩; have O2 := Lib.hid ho2; clear ho2; have P92 : Blk w2 (wr.heap.size + 1) 29 #[.int .i64 tag, .bool false, .int .u64 ((toU v : Nat) : Int), .slice none 0 0] := BlkE (BlkD P9) hx2; have v0 := P92.cell 0; have v1 := P92.cell 1; have v2 := P92.cell 2; have v3 := P92.cell 3; have f0 := P92.frozen 0; have f1 := P92.frozen 1; have f2 := P92.frozen 2; have f3 := P92.frozen 3))
            have P9 : Blk ((((w2.setCell ⟨wr.heap.size + 1, 0, none⟩ (.int .i64 tag)).setCell ⟨wr.heap.size + 1, 1, none⟩ (.bool true)).setCell ⟨wr.heap.size + 1, 2, none⟩ (.int .u64 0)).setCell ⟨wr.heap.size + 1, 3, none⟩ (.slice A2 l.length c2)) (wr.heap.size + 1) 29 #[.int .i64 tag, .bool true, .int .u64 ((0 : Nat) : Int), .slice A2 l.length c2] := Blk_eq (BlkS (BlkS (BlkS (BlkS P92)))) rfl
            have P8 : Blk ((((w2.setCell ⟨wr.heap.size + 1, 0, none⟩ (.int .i64 tag)).setCell ⟨wr.heap.size + 1, 1, none⟩ (.bool true)).setCell ⟨wr.heap.size + 1, 2, none⟩ (.int .u64 0)).setCell ⟨wr.heap.size + 1, 3, none⟩ (.slice A2 l.length c2)) wr.heap.size 48 #[.int .i64 2, .int .i64 tag, .int .i64 v, .slice Bp l.length cb] := (by repeat (first | with_reducible assumption | (with_reducible refine BlkN ?_; (first | rfl | (first | omega | (dsimp only; omega) | (simp; done) | (simp; omega)))) | with_reducible refine BlkD ?_ | with_reducible refine BlkDN ?_ | with_reducible refine BlkA ?_ | with_reducible refine BlkE ?_ (by with_reducible assumption) | with_reducible refine BlkS ?_ | (with_reducible refine BlkF ?_ ?_; (first | omega | (dsimp only; omega) | (simp; done) | (simp; omega))) | (with_reducible refine BlkR ?_ ?_; (first | omega | (dsimp only; omega) | (simp; done) | (simp; omega)))))
            have hT : Turn [wr.heap.size + 1] w2 ((((w2.setCell ⟨wr.heap.size + 1, 0, none⟩ (.int .i64 tag)).setCell ⟨wr.heap.size + 1, 1, none⟩ (.bool true)).setCell ⟨wr.heap.size + 1, 2, none⟩ (.int .u64 0)).setCell ⟨wr.heap.size + 1, 3, none⟩ (.slice A2 l.length c2)) := (((Turn.cell (by simp)).tr (Turn.cell (by simp))).tr (Turn.cell (by simp))).tr (Turn.cell (by simp))
            have hz12 : wr.heap.size + 1 < w1.heap.size ∧ w1.heap.size ≤ w2.heap.size := ⟨by have := hx1.size; simp at this; omega, by have := hx2.size; simpa using this⟩
            have hA2 : ∀ r ∈ blkOf A2, r ∉ blkOf A1 := fun r hr hc => by
              have h1 := (O1.out.lt r (own_blkOf hc)).2
              have h2 := (O2.out.lt r (own_blkOf hr)).1
              simp at h2
              omega
            have O1 := Lib.hid (hT.own (own_ext (ExtD (Ext.rfl' w1) |>.tr hx2) O1.out) (fun r hr => by
              have h1 := O1.out.lt r hr
              simp only [List.mem_singleton]
              simp at h1
              omega))
            have O2 := Lib.hid (hT.own O2.out (fun r hr => by
              have h1 := O2.out.lt r hr
              simp only [List.mem_singleton]
              simp at h1
              omega))
            have X2 : Ext wr ((((w2.setCell ⟨wr.heap.size + 1, 0, none⟩ (.int .i64 tag)).setCell ⟨wr.heap.size + 1, 1, none⟩ (.bool true)).setCell ⟨wr.heap.size + 1, 2, none⟩ (.int .u64 0)).setCell ⟨wr.heap.size + 1, 3, none⟩ (.slice A2 l.length c2)) := (by repeat (first | with_reducible exact Below.refl _ _ | with_reducible assumption | with_reducible refine ExtD ?_ | with_reducible refine ExtDN ?_ | with_reducible refine ExtA ?_ | (with_reducible refine ExtR ?_ ?_; (first | omega | (dsimp only; omega) | (simp; done) | (simp; omega))) | (with_reducible refine ExtS ?_ ?_; (first | omega | (dsimp only; omega) | (simp; done) | (simp; omega))) | with_reducible refine Ext.tr ?_ (by with_reducible assumption)))
            have hz3 : w2.heap.size = ((((w2.setCell ⟨wr.heap.size + 1, 0, none⟩ (.int .i64 tag)).setCell ⟨wr.heap.size + 1, 1, none⟩ (.bool true)).setCell ⟨wr.heap.size + 1, 2, none⟩ (.int .u64 0)).setCell ⟨wr.heap.size + 1, 3, none⟩ (.slice A2 l.length c2)).heap.size := by simp
            clear v0 v1 v2 v3 f0 f1 f2 f3 P92 hT a0 a1 a2 a3
            generalize ((((w2.setCell ⟨wr.heap.size + 1, 0, none⟩ (.int .i64 tag)).setCell ⟨wr.heap.size + 1, 1, none⟩ (.bool true)).setCell ⟨wr.heap.size + 1, 2, none⟩ (.int .u64 0)).setCell ⟨wr.heap.size + 1, 3, none⟩ (.slice A2 l.length c2)) = w3 at *
            have a1 := P8.cell 1
            go_wp2_with (go_at_call 27; (with_reducible refine (KT.out _ _ _ (rd_own O1.out) X2).mono ?_); rintro e W5 ⟨rfl, hr5⟩; have H5 := Lib.hid hr5; clear hr5)
            obtain ⟨A', n', c', hs', Af, cf, q1, q2, q3, q4, q5, q6, q7⟩ := H5.out
            have X1 := X2
            have hA1 : ∀ r ∈ blkOf A1, wr.heap.size + 1 < r ∧ r < w2.heap.size := fun r hr => by
              have h1 := O1.out.lt r (own_blkOf hr)
              simp at h1
              omega
            have HE : ∀ g ∈ hs', ∀ r ∈ blkOf g.2.1, r ∉ blkOf A1 := fun f hf r hr hc => by
              have h1 := hA1 r hc
              rcases q3 with rfl | rfl
              · have := HOw.out.new.2 f hf r hr; omega
              · rcases List.mem_append.1 hf with hf | hf
                · have := HOw.out.new.2 f hf r hr; omega
                · rw [List.mem_singleton.1 hf] at hr
                  have := (q7.lt r (own_blkOf hr)).1
                  omega
            have hbA : ∀ r ∈ blkOf A1, r ∉ w.heap.size :: blkOf Aw := fun r hr hc => by have := HF.out r hc; have := hA1 r hr; omega
            have hbA2 : ∀ r ∈ blkOf A2, r ∉ w.heap.size :: blkOf Aw := fun r hr hc => by have := HF.out r hc; have := (O2.out.lt r (own_blkOf hr)).1; simp at this; omega
            have O1 := Lib.hid (q5.own O1.out (fun r hr => hbA r (by rw [blkOf_own hr]; simp)))
            have O2 := Lib.hid (q5.own O2.out (fun r hr => hbA2 r (by rw [blkOf_own hr]; simp)))
            have hW3 : w3.heap.size ≤ W5.heap.size := q5.size
            have hwz : w.heap.size ≤ w3.heap.size := Nat.le_trans HX.out.size X2.size
            have HQ7 := Lib.hid (own_base q7 hwz)
            clear P8 H5 a1 q7
            have hsep : ∀ r ∈ blkOf A', r ∉ blkOf A1 := fun r hr hc => own_apart_ O1.out q4 (by decide) r hc hr
            have OW5 := Lib.hid (add_own (HOw.out.ext' X1) (BlkE HB.out X1) q5 q4 q3 HQ7.out)
            have D5 := Lib.hid (add_dis Hd.out HO4.out.new.1 X1.size q6)
            have HEh := Lib.hid HE
            have Hsep := Lib.hid hsep
            have HA1 := Lib.hid hA1
            have HA2 := Lib.hid hA2
            have Q1 := Lib.hid q1
            have Q2 := Lib.hid q2
            clear hsep hA1 hA2 hbA hbA2
            have P9 := q5.blk P9 (fun hc => by have := HF.out _ hc; omega)
            have O4 := Lib.hid ((HO4.out.ext' X1).turnW (BlkE HB.out X1) (own_ext X1 HOw.out.1) Hd.out q5)
            have OP := Lib.hid (q5.own (own_ext X1 HOp.out) (fun r hr hc => HP.out r hc (by simp [Value.ownBlock] at hr; exact hr.symm)))
            have HX5 := Lib.hid (q5.ext (HX.out.tr X1) (fun r hr => by
              rcases List.mem_cons.1 hr with rfl | hr
              · exact Nat.le_refl _
              · exact (HOw.out.1.lt r (own_blkOf hr)).1))
            have HN4 : Hid (wr.heap.size + 1 ∉ blkOf A4) := Lib.hid fun hc => by have := HO4.out.new.1 _ hc; omega
            have BI5 := bi_of O1.out
            have H9 := Lib.hid P9
            clear q1 q2 q3 q4 q5 q6 HE P9
            have hl62 : l.length ≤ 140737488351232 := hl8
            go_wp2_with fail
            go_loopw [116] (fun d116 wy => XorR W5 (wr.alloc (.cells #[.int .i64 2, .int .i64 tag, .int .i64 v, .slice Bp l.length cb] 48) |>.alloc (.cells #[.int .i64 tag, .bool false, .int .u64 ((toU v : Nat) : Int), .slice none 0 0] 29)).heap.size A1 l.length c1 d116 wy) (fun d116 _ => l.length - (intOf d116).toNat)
            case atStart => exact ⟨0, rfl, by omega, Turn.refl _ _, BI5⟩
            case round =>
              rename World => wy
              obtain ⟨j, rfl, hj, hty, hby⟩ := hrel
              by_cases hjl : j < l.length
              · obtain ⟨bk, q, rfl, _, hcj, hfj, hset⟩ := hby.at hjl
                have Hset := Lib.hid hset
                clear hset
                go_wp2_with fail
                refine And.intro ⟨j + 1, by go_num, by omega, hty.tr (Turn.cell (by simp [blkOf])), Hset.out _⟩ ?_
                simp [intOf]; omega
              · obtain rfl : j = l.length := by omega
                have P9 : Blk wy (wr.heap.size + 1) 29 #[.int .i64 tag, .bool true, .int .u64 ((0 : Nat) : Int), .slice A2 l.length c2] := hty.blk H9.out (fun hc => by have := (HA1.out _ hc).1; omega)
                have O4 := Lib.hid (O4.out.turn hty (fun r hr hc => own_apart_ O1.out O4.out.1 (by decide) r hc hr) (fun f hf r hr hc => by have h1 := HO4.out.new.2 f hf r hr; have h2 := (HA1.out r hc).1; omega))
                have OP := Lib.hid (hty.own OP.out (fun r hr hc => own_apart_ O1.out OP.out (by decide) r hc (by rw [blkOf_own hr]; simp)))
                have HX5 := Lib.hid (hty.ext HX5.out (fun r hr => by have h1 := (HA1.out r hr).1; have h2 := HX.out.size; omega))
                have OF : Hid (wy.ownsRow w.heap.size 5 1 (.slice A2 l.length c2) l.length (u8s l)) := Lib.hid (hty.own (own_base O2.out (by have h2 := HX.out.size; have h3 := X1.size; simp; omega)) (fun r hr => HA2.out r (by rw [blkOf_own hr]; simp)))
                have HW : Hid (∃ A' n' c' hs', WrB wy w.heap.size A' n' c' (addW (hs4.map (·.1), bad) ⟨tag, true, 0, l⟩).2 ∧ hs'.map (·.1) = (addW (hs4.map (·.1), bad) ⟨tag, true, 0, l⟩).1 ∧ OwnFs wy w.heap.size A' n' c' hs' ∧ ∀ r ∈ blkOf A4, r ∉ blkOf A') := Lib.hid (by
                  rw [← Hm.out]
                  exact ⟨A', n', c', hs', hty.blk Q1.out (fun hc => blk_off O1.out Q1.out (by decide) (own_blkOf hc)), Q2.out, OW5.out.turn hty Hsep.out HEh.out, D5.out⟩)
                clear hty hby O1 O2 H9 OW5 Q1 Q2 BI5 HQ7
                obtain ⟨x, hx⟩ : ∃ x, fault ⟨tag, true, 0, l⟩ (lastT (hs4.map (·.1))) = x := ⟨_, rfl⟩
                have KF : Hid (∀ W, Calls Try.prog 29 #[.agg #[.int .i64 tag, .bool true, .int .u64 (0), .slice A2 l.length c2], .int .i64 (lastT (hs4.map (·.1)))] W fun e w' => e = .returned (.int .i64 (x : Nat)) ∧ Ext W w') := Lib.hid fun W => by
                  have h := fault_any ⟨tag, true, 0, l⟩ A2 c2 (lastT (hs4.map (·.1))) W
                  unfold FaultPost at h
                  rw [hx] at h
                  exact h
                have Hx := Lib.hid hx
                clear hx
                have y0 := P9.cell 0
                have y1 := P9.cell 1
                have y2 := P9.cell 2
                have y3 := P9.cell 3
                by_cases hbad : bad = 0
                · subst hbad
                  have Hrf := Lib.hid fun (W : World) => rdF_new W _ ⟨tag, true, 0, l⟩ A2 c2 rfl
                  by_cases x0 : x = 0
                  · subst x0
                    have hadd : addW (hs4.map (·.1), 0) ⟨tag, true, 0, l⟩ = (hs4.map (·.1) ++ [⟨tag, true, 0, l⟩], 0) := addW_ok Hx.out
                    go_wp2_with (first
                      | (go_at_call 29; (with_reducible refine (KF.out _).mono ?_); rintro e w6 ⟨rfl, hx6⟩; have P6 := BlkE P9 hx6; have z0 := P6.cell 0; have z1 := P6.cell 1; have z2 := P6.cell 2; have z3 := P6.cell 3)
                      | (change wpList _ _ _ (⟨some 141, _, _, _, _, _⟩ :: _) _ _; refine wpFd_append rfl (.tmp 138) (.tmp 140) rfl w.heap.size (Nat.le_trans HX5.out.size (Below.size (B := wy.heap.size) (w := wy) (by repeat (first | with_reducible exact Below.refl _ _ | with_reducible assumption | with_reducible refine ExtD ?_ | with_reducible refine ExtDN ?_ | with_reducible refine ExtA ?_ | (with_reducible refine ExtR ?_ ?_; (first | omega | (dsimp only; omega) | (simp; done) | (simp; omega))) | (with_reducible refine ExtS ?_ ?_; (first | omega | (dsimp only; omega) | (simp; done) | (simp; omega))) | with_reducible refine Ext.tr ?_ (by with_reducible assumption))))) rfl ((own_ext hx6 O4.out.1).alloc _) rfl (Hrf.out _) (by have := HK.out.len; simp at this; simp; omega) ?_; intro A7 n7 c7 w7 hn7 ho7 ht7 hb7; have P7 := ht7.blk (BlkA (BlkE P9 hx6)) HN4.out; have z0 := P7.cell 0; have O7 := Lib.hid ho7; clear ho7))
                    obtain ⟨A', n', c', hs', q1, q2, q3, q4⟩ := HW.out
                    have hk2 := addW_kept HK.out (f := ⟨tag, true, 0, l⟩) ⟨Hwt.out.1, Hwt.out.2, (show (0 : Nat) < 18446744073709551616 by decide)⟩
                    rw [hadd] at q1 q2 hk2
                    have hS9 := HnS.out
                    have xe := ExtA (o := .cells #[.int .i64 tag, .bool true, .int .u64 ((0 : Nat) : Int), .slice A2 l.length c2] 29) hx6
                    have o4e := O4.out.ext' xe
                    have hb7e := BlkE q1 xe
                    have hg4 := blk_notin hb7e o4e.1 (by decide)
                    have ht8 : Turn (w.heap.size :: blkOf A4) _ w7 := ht7.mono (fun r hr => .inl (by simp [hr]))
                    have q5 : ∀ r ∈ blkOf A', r ∉ blkOf A4 := fun r hr hc => q4 r hc hr
                    have q3e := q3.ext' xe
                    refine And.intro ⟨k + 1, A7, n7, c7, hs4 ++ [(⟨tag, true, 0, l⟩, A2, c2)], 0, A', n', c', hs', by go_num, by omega, rfl, by rw [List.map_append]; simp [lastT_snoc], rfl, by rw [List.map_append]; exact hk2, ?_, ht7.blk hb7e hg4, ?_, q3e.turnW hb7e o4e.1 q5 ht8, by rw [List.map_append]; exact q2, ?_, ?_⟩ ?_
                    · exact ht7.ext (HX5.out.tr xe) fun r hr => (o4e.1.lt r (own_blkOf hr)).1
                    · exact add_own o4e hb7e ht8 O7.out (.inr rfl) (ht8.own (own_ext xe OF.out) (fun r hr hc => by
                        rcases List.mem_cons.1 hc with rfl | hc
                        · exact blk_off (own_ext xe OF.out) hb7e (by decide) hr
                        · exact own_apart8 (own_ext xe OF.out) o4e.1 r (by rw [blkOf_own hr]; simp) hc))
                    · exact fun r hr hc => by
                        rcases hb7 r hr with h | h
                        · exact q4 r h hc
                        · have h1 := q3e.new.1 r hc
                          have hsz : ∀ o, (w6.alloc o).heap.size = w6.heap.size + 1 := fun o => by simp
                          rw [hsz] at h h1
                          omega
                    · exact ht7.own (own_ext xe OP.out) fun r hr hc => HP4.out r hc (by simp [Value.ownBlock] at hr; exact hr.symm)
                    · simp [intOf]; omega
                  · by_cases x22 : x = 22
                    · subst x22
                      have hadd : addW (hs4.map (·.1), 0) ⟨tag, true, 0, l⟩ = (hs4.map (·.1), 0) := addW_zero Hx.out
                      go_wp2_with (go_at_call 29; (with_reducible refine (KF.out _).mono ?_); rintro e w6 ⟨rfl, hx6⟩; have P6 := BlkE P9 hx6; have z0 := P6.cell 0; have z1 := P6.cell 1; have z2 := P6.cell 2; have z3 := P6.cell 3)
                      obtain ⟨A', n', c', hs', q1, q2, q3, q4⟩ := HW.out
                      have hk2 := addW_kept HK.out (f := ⟨tag, true, 0, l⟩) ⟨Hwt.out.1, Hwt.out.2, (show (0 : Nat) < 18446744073709551616 by decide)⟩
                      rw [hadd] at q1 q2 hk2
                      have hS9 := HnS.out
                      refine And.intro ⟨k + 1, A4, n4, c4, hs4, _, A', n', c', hs', by go_num, by omega, rfl, rfl, rfl, hk2, HX5.out.tr hx6, BlkE q1 hx6, O4.out.ext' hx6, q3.ext' hx6, q2, q4, own_ext hx6 OP.out⟩ ?_
                      simp [intOf]; omega
                    · have t0 : ((x : Int) == 0) = false := by simp; omega
                      have t1 : ((x : Int) != 22) = true := by simp; omega
                      have hadd : addW (hs4.map (·.1), 0) ⟨tag, true, 0, l⟩ = (hs4.map (·.1), x) := by
                        rw [addW_fault (by rw [Hx.out]; exact x0) (by rw [Hx.out]; exact x22), Hx.out]
                      clear x0 x22
                      go_wp2_with (go_at_call 29; (with_reducible refine (KF.out _).mono ?_); rintro e w6 ⟨rfl, hx6⟩; have P6 := BlkE P9 hx6; have z0 := P6.cell 0; have z1 := P6.cell 1; have z2 := P6.cell 2; have z3 := P6.cell 3)
                      obtain ⟨A', n', c', hs', q1, q2, q3, q4⟩ := HW.out
                      have hk2 := addW_kept HK.out (f := ⟨tag, true, 0, l⟩) ⟨Hwt.out.1, Hwt.out.2, (show (0 : Nat) < 18446744073709551616 by decide)⟩
                      rw [hadd] at q1 q2 hk2
                      have hS9 := HnS.out
                      refine And.intro ⟨k + 1, A4, n4, c4, hs4, _, A', n', c', hs', by go_num, by omega, rfl, rfl, rfl, hk2, HX5.out.tr hx6, BlkE q1 hx6, O4.out.ext' hx6, q3.ext' hx6, q2, q4, own_ext hx6 OP.out⟩ ?_
                      simp [intOf]; omega
                · have t0 : ((bad : Int) == 0) = false := by simp; omega
                  have hadd : addW (hs4.map (·.1), bad) ⟨tag, true, 0, l⟩ = (hs4.map (·.1), bad) := addW_bad _ hbad
                  clear hbad
                  go_wp2_with (go_at_call 29; (with_reducible refine (KF.out _).mono ?_); rintro e w6 ⟨rfl, hx6⟩; have P6 := BlkE P9 hx6; have z0 := P6.cell 0; have z1 := P6.cell 1; have z2 := P6.cell 2; have z3 := P6.cell 3)
                  obtain ⟨A', n', c', hs', q1, q2, q3, q4⟩ := HW.out
                  have hk2 := addW_kept HK.out (f := ⟨tag, true, 0, l⟩) ⟨Hwt.out.1, Hwt.out.2, (show (0 : Nat) < 18446744073709551616 by decide)⟩
                  rw [hadd] at q1 q2 hk2
                  have hS9 := HnS.out
                  refine And.intro ⟨k + 1, A4, n4, c4, hs4, _, A', n', c', hs', by go_num, by omega, rfl, rfl, rfl, hk2, HX5.out.tr hx6, BlkE q1 hx6, O4.out.ext' hx6, q3.ext' hx6, q2, q4, own_ext hx6 OP.out⟩ ?_
                  simp [intOf]; omega
          · have t0 : (pk == 0) = false := by simp; omega
            have t1 : (pk == 1) = false := by simp; omega
            have t2 : (pk == 2) = false := by simp; omega
            have hfw : FsRd wr Aw nw (hs4.map (·.1)) := by rw [← Hm.out]; exact HOw.out.rd
            have hf4 : FsRd wr A4 n4 (hs4.map (·.1)) := HO4.out.rd
            have hnw : nw = (hs4.map (·.1)).length := hfw.len.symm
            have hn4 : n4 = (hs4.map (·.1)).length := hf4.len.symm
            have hl31 := HK.out.len
            dsimp only at hl31
            have hmx : (encR (hs4.map (·.1))).length ≤ 1024 := encR_max _
            generalize hfs : hs4.map (·.1) = fs at *
            have KD := Lib.hid fun W (hx : Ext wr W) => wdone_any W w.heap.size Aw nw cw fs bad (BlkE HB.out hx) (hfw.ext hx) HK.out.1 (by simp only [maxLen]; omega)
            have KE := Lib.hid fun W (hx : Ext wr W) => renc_any A4 n4 c4 fs W (hf4.ext hx) HK.out.1 (by simp only [maxLen]; omega)
            unfold EncPost at KE
            clear k0 k1 k2 hfw hf4 hnw hn4
            have HSM : Hid (∀ (W : World) (A1 A2 : Option Addr) (n1 c1 n2 c2 : Nat) (l1 : List UInt8), l1.length ≤ 1024 → n1 = l1.length → Rd W A1 n1 (u8s l1) → Rd W A2 n2 (u8s l1) → Calls Try.prog 15 #[.slice A1 n1 c1, .slice A2 n2 c2] W fun e w' => e = .returned (.bool true) ∧ Ext W w') := Lib.hid fun W A1 A2 n1 c1 n2 c2 l1 h1 h2 h3 h4 => same_yes A1 A2 n1 c1 n2 c2 l1 W h3 h4 (by simp only [maxLen]; omega)
            by_cases hbad : bad = 0
            · subst hbad
              simp only [if_true] at KD
              have Hmx := Lib.hid hmx
              generalize encE fs = E at *
              generalize encR fs = R at *
              go_wp2_with (first
                | (go_at_call 19; (with_reducible refine (KC.out _ (by repeat (first | with_reducible exact Below.refl _ _ | with_reducible assumption | with_reducible refine ExtD ?_ | with_reducible refine ExtDN ?_ | with_reducible refine ExtA ?_ | (with_reducible refine ExtR ?_ ?_; (first | omega | (dsimp only; omega) | (simp; done) | (simp; omega))) | (with_reducible refine ExtS ?_ ?_; (first | omega | (dsimp only; omega) | (simp; done) | (simp; omega))) | with_reducible refine Ext.tr ?_ (by with_reducible assumption)))).mono ?_); rintro e w1 ⟨A7, c7, rfl, hx1, ho1⟩; have P8 : Blk w1 wr.heap.size 48 #[.int .i64 pk, .int .i64 tag, .int .i64 v, .slice Bp l.length cb] := BlkE (BlkA (BlkN rfl)) hx1; have a0 := P8.cell 0; have X1 : Ext wr w1 := (by repeat (first | with_reducible exact Below.refl _ _ | with_reducible assumption | with_reducible refine ExtD ?_ | with_reducible refine ExtDN ?_ | with_reducible refine ExtA ?_ | (with_reducible refine ExtR ?_ ?_; (first | omega | (dsimp only; omega) | (simp; done) | (simp; omega))) | (with_reducible refine ExtS ?_ ?_; (first | omega | (dsimp only; omega) | (simp; done) | (simp; omega))) | with_reducible refine Ext.tr ?_ (by with_reducible assumption))); clear ho1)
                | (go_at_call 28; (with_reducible refine (KD.out _ X1).mono ?_); rintro e w2 ⟨A1, n1, c1, rfl, hx2, hn1, ho2⟩; have O1 := Lib.hid ho2; have Hn1 := Lib.hid hn1; have X2 : Ext wr w2 := X1.tr hx2; clear ho2 hn1)
                | (go_at_call 13; (with_reducible refine (KE.out _ X2).mono ?_); rintro e w3 ⟨A2, c2, rfl, hx3, ho3⟩; have O2 := Lib.hid ho3; have X3 : Ext wr w3 := X2.tr hx3; clear ho3)
                | (go_at_call 15; go_loud (first | (with_reducible refine (HSM.out _ _ _ _ _ _ _ R Hmx.out Hn1.out ((rd_own O1.out).ext hx3) (by first | exact rd_own O2.out | exact rd_nil8 _)).mono ?_)); rintro e w4 ⟨rfl, hx4⟩))
              have X4 : Ext wr w4 := X3.tr hx4
              have BI4 : BI w4 w1.heap.size A1 n1 c1 := bi_of (own_ext (hx3.tr hx4) O1.out)
              have hA1 : ∀ r ∈ blkOf A1, wr.heap.size ≤ r := fun r hr => Nat.le_trans X1.size (O1.out.lt r (own_blkOf hr)).1
              have HA1 := Lib.hid hA1
              have hn1k : n1 ≤ 1024 := by rw [Hn1.out]; exact Hmx.out
              clear P8 a0 hA1
              go_loopw [73] (fun d73 wy => XorR w4 w1.heap.size A1 n1 c1 d73 wy) (fun d73 _ => n1 - (intOf d73).toNat)
              case atStart => exact ⟨0, rfl, by omega, Turn.refl _ _, BI4⟩
              case round =>
                rename World => wy
                obtain ⟨j, rfl, hj, hty, hby⟩ := hrel
                by_cases hjl : j < n1
                · obtain ⟨bk, q, rfl, _, hcj, hfj, hset⟩ := hby.at hjl
                  have Hset := Lib.hid hset
                  clear hset
                  go_wp2_with fail
                  refine And.intro ⟨j + 1, by go_num, by omega, hty.tr (Turn.cell (by simp [blkOf])), Hset.out _⟩ ?_
                  simp [intOf]; omega
                · obtain rfl : j = n1 := by omega
                  go_wp2_with fail
                  have hS9 := HnS.out
                  have hoff : ∀ r ∈ blkOf A1, wr.heap.size ≤ r := HA1.out
                  have ht : Turn (blkOf A1) wr wy := (X4.turn _).tr hty
                  refine And.intro ⟨k + 1, A4, n4, c4, hs4, _, Aw, nw, cw, hsw, by go_num, by omega, rfl, by rw [hfs], rfl, by rw [hfs]; exact HK.out, ht.ext HX.out (fun r hr => Nat.le_trans HX.out.size (hoff r hr)), ht.blk HB.out (fun hc => by have := HB.out.lt; have := hoff _ hc; omega), HO4.out.turnNew HO4.out ht hoff, HOw.out.turnNew HOw.out ht hoff, by rw [hfs]; exact Hm.out, Hd.out, ht.own HOp.out (fun r hr hc => by have := (HOp.out.lt r hr).2; have := hoff r hc; omega)⟩ ?_
                  simp [intOf]; omega
            · have tb : ((bad : Int) != 0) = true := by simp; exact hbad
              simp only [if_neg hbad] at KD
              have Hmx : Hid (([] : List UInt8).length ≤ 1024) := Lib.hid (by simp)
              clear hbad
              go_wp2_with (first
                | (go_at_call 19; (with_reducible refine (KC.out _ (by repeat (first | with_reducible exact Below.refl _ _ | with_reducible assumption | with_reducible refine ExtD ?_ | with_reducible refine ExtDN ?_ | with_reducible refine ExtA ?_ | (with_reducible refine ExtR ?_ ?_; (first | omega | (dsimp only; omega) | (simp; done) | (simp; omega))) | (with_reducible refine ExtS ?_ ?_; (first | omega | (dsimp only; omega) | (simp; done) | (simp; omega))) | with_reducible refine Ext.tr ?_ (by with_reducible assumption)))).mono ?_); rintro e w1 ⟨A7, c7, rfl, hx1, ho1⟩; have P8 : Blk w1 wr.heap.size 48 #[.int .i64 pk, .int .i64 tag, .int .i64 v, .slice Bp l.length cb] := BlkE (BlkA (BlkN rfl)) hx1; have a0 := P8.cell 0; have X1 : Ext wr w1 := (by repeat (first | with_reducible exact Below.refl _ _ | with_reducible assumption | with_reducible refine ExtD ?_ | with_reducible refine ExtDN ?_ | with_reducible refine ExtA ?_ | (with_reducible refine ExtR ?_ ?_; (first | omega | (dsimp only; omega) | (simp; done) | (simp; omega))) | (with_reducible refine ExtS ?_ ?_; (first | omega | (dsimp only; omega) | (simp; done) | (simp; omega))) | with_reducible refine Ext.tr ?_ (by with_reducible assumption))); clear ho1)
                | (go_at_call 28; (with_reducible refine (KD.out _ X1).mono ?_); rintro e w2 ⟨A1, n1, c1, rfl, hx2, hn1, ho2⟩; have O1 := Lib.hid ho2; have Hn1 := Lib.hid hn1; have X2 : Ext wr w2 := X1.tr hx2; clear ho2 hn1)
                | (go_at_call 13; (with_reducible refine (KE.out _ X2).mono ?_); rintro e w3 ⟨A2, c2, rfl, hx3, ho3⟩; have O2 := Lib.hid ho3; have X3 : Ext wr w3 := X2.tr hx3; clear ho3)
                | (go_at_call 15; go_loud (first | (with_reducible refine (HSM.out _ _ _ _ _ _ _ [] Hmx.out Hn1.out ((rd_own O1.out).ext hx3) (by first | exact rd_own O2.out | exact rd_nil8 _)).mono ?_)); rintro e w4 ⟨rfl, hx4⟩))
              have X4 : Ext wr w4 := X3.tr hx4
              have BI4 : BI w4 w1.heap.size A1 n1 c1 := bi_of (own_ext (hx3.tr hx4) O1.out)
              have hA1 : ∀ r ∈ blkOf A1, wr.heap.size ≤ r := fun r hr => Nat.le_trans X1.size (O1.out.lt r (own_blkOf hr)).1
              have HA1 := Lib.hid hA1
              have hn1k : n1 ≤ 1024 := by rw [Hn1.out]; exact Hmx.out
              clear P8 a0 hA1
              go_loopw [73] (fun d73 wy => XorR w4 w1.heap.size A1 n1 c1 d73 wy) (fun d73 _ => n1 - (intOf d73).toNat)
              case atStart => exact ⟨0, rfl, by omega, Turn.refl _ _, BI4⟩
              case round =>
                rename World => wy
                obtain ⟨j, rfl, hj, hty, hby⟩ := hrel
                by_cases hjl : j < n1
                · obtain ⟨bk, q, rfl, _, hcj, hfj, hset⟩ := hby.at hjl
                  have Hset := Lib.hid hset
                  clear hset
                  go_wp2_with fail
                  refine And.intro ⟨j + 1, by go_num, by omega, hty.tr (Turn.cell (by simp [blkOf])), Hset.out _⟩ ?_
                  simp [intOf]; omega
                · obtain rfl : j = n1 := by omega
                  go_wp2_with fail
                  have hS9 := HnS.out
                  have hoff : ∀ r ∈ blkOf A1, wr.heap.size ≤ r := HA1.out
                  have ht : Turn (blkOf A1) wr wy := (X4.turn _).tr hty
                  refine And.intro ⟨k + 1, A4, n4, c4, hs4, _, Aw, nw, cw, hsw, by go_num, by omega, rfl, by rw [hfs], rfl, by rw [hfs]; exact HK.out, ht.ext HX.out (fun r hr => Nat.le_trans HX.out.size (hoff r hr)), ht.blk HB.out (fun hc => by have := HB.out.lt; have := hoff _ hc; omega), HO4.out.turnNew HO4.out ht hoff, HOw.out.turnNew HOw.out ht hoff, by rw [hfs]; exact Hm.out, Hd.out, ht.own HOp.out (fun r hr hc => by have := (HOp.out.lt r hr).2; have := hoff r hc; omega)⟩ ?_
                  simp [intOf]; omega
    · obtain rfl : k = S.length := by omega
      have HX := Lib.hid hX
      clear hX hB hO4 hOw hOp hdis hmap hKe
      go_wp2_with fail
      go_ret
      exact ⟨rfl, HX.out⟩
end Go.Proofs.Ytcekdfhbbfednaa
