/-
  The walk of tlv.Decode.
-/
import Derived.Test.YtipdilmlodakoaaDecW
import Derived.Deep.LoopGhost
namespace Go.Proofs.Ytipdilmlodakoaa
open Go.RowKit
set_option linter.unusedVariables false
set_option linter.unusedSimpArgs false
def TDecR (W : World) (A : Option Addr) (n c : Nat) (l : List UInt8) (gk : Nat) (c3 c6 : Value) (wr : World) : Prop :=
  ∃ (x : Int) (last : Int) (at_ : Nat) (Ar : Option Addr) (cr : Nat) (hs : List Held), c3 = .int .i64 x ∧ c6 = .int .i64 last ∧ at_ + gk = n ∧ 0 ≤ last ∧ last ≤ 31 ∧ hs.length ≤ at_ ∧ Ext W wr ∧
    Blk wr W.heap.size 48 #[.slice Ar hs.length cr] ∧ Blk wr (W.heap.size + 1) 31 #[.int .i64 0] ∧ Blk wr (W.heap.size + 1 + 1) 116 (curA A n c at_) ∧
    OwnFs wr W.heap.size Ar hs.length cr hs ∧ Goes l (hs.map (·.1)) last at_
set_option maxRecDepth 100000 in
set_option maxHeartbeats 4000000 in
theorem tdec_any (A : Option Addr) (n c : Nat) (l : List UInt8) (w : World) (hr : Rd w A n (u8s l)) (hnc : n ≤ c) (hn : n ≤ maxLen) :
    Calls Try.prog 49 #[.slice A n c] w (DecPost w l) := by
  unfold maxLen at hn
  have hmf : ∀ (fn : Fn) (first cap : Array Value) (w : World), (Instr.makeFunc fn first cap).run Try.prog w = .ok (.func fn first cap) w := fun _ _ _ _ => rfl
  have hll : l.length = n := by have := hr.1; rw [u8s_len] at this; exact this
  by_cases hbig : 1024 < n
  · have Hd : Hid (dec l = ([], 0, 24)) := Lib.hid (by rw [dec_eq, if_pos (by omega)])
    clear hll hr
    go_enter_defers Try.func49, Try.ntmps49
    go_wp2_with fail
    have e2 : Blk ((w.alloc (.cells #[.slice none 0 0] 48)).alloc (.cells #[.int .i64 24] 31)) w.heap.size 48 #[.slice none 0 0] := BlkA (BlkN rfl)
    have e3 : Blk ((w.alloc (.cells #[.slice none 0 0] 48)).alloc (.cells #[.int .i64 24] 31)) (w.heap.size + 1) 31 #[.int .i64 24] := BlkN (by simp)
    refine ⟨_, results_ctc rfl _ _ rfl rfl rfl (load_cell Try.underlying48 rfl (e2.cell 0)) (load_cell Try.underlying31 rfl (e3.cell 0)), ?_⟩
    unfold DecPost
    rw [Hd.out]
    exact ⟨none, 0, [], rfl, (by repeat (first | with_reducible exact Below.refl _ _ | with_reducible assumption | with_reducible refine ExtD ?_ | with_reducible refine ExtDN ?_ | with_reducible refine ExtA ?_ | (with_reducible refine ExtR ?_ ?_; (first | omega | (dsimp only; omega) | (simp; done) | (simp; omega))) | (with_reducible refine ExtS ?_ ?_; (first | omega | (dsimp only; omega) | (simp; done) | (simp; omega))) | with_reducible refine Ext.tr ?_ (by with_reducible assumption))), ⟨World.ownsRow_nil _ _ _ _, fun h hh => by cases hh⟩, rfl⟩
  · have hn1 : n ≤ 1024 := by omega
    have Hdec : Hid (dec l = decA l 0 0) := Lib.hid (by rw [dec_eq, if_neg (by omega)])
    have Hll := Lib.hid hll
    have Hr := Lib.hid hr
    clear hll hbig hr
    go_enter_defers Try.func49, Try.ntmps49
    go_wp2_with fail
    go_loopg [3, 6] n (fun gk c3 c6 wr => TDecR w A n c l gk c3 c6 wr)
    case atStart => exact ⟨0, 0, 0, none, 0, [], rfl, rfl, by omega, by omega, by omega, by simp, (by repeat (first | with_reducible exact Below.refl _ _ | with_reducible assumption | with_reducible refine ExtD ?_ | with_reducible refine ExtDN ?_ | with_reducible refine ExtA ?_ | (with_reducible refine ExtR ?_ ?_; (first | omega | (dsimp only; omega) | (simp; done) | (simp; omega))) | (with_reducible refine ExtS ?_ ?_; (first | omega | (dsimp only; omega) | (simp; done) | (simp; omega))) | with_reducible refine Ext.tr ?_ (by with_reducible assumption))), BlkA (BlkA (BlkN rfl)), (by repeat (first | with_reducible assumption | (with_reducible refine BlkN ?_; (first | rfl | (first | omega | (dsimp only; omega) | (simp; done) | (simp; omega)))) | with_reducible refine BlkD ?_ | with_reducible refine BlkDN ?_ | with_reducible refine BlkA ?_ | with_reducible refine BlkE ?_ (by with_reducible assumption) | with_reducible refine BlkS ?_ | (with_reducible refine BlkF ?_ ?_; (first | omega | (dsimp only; omega) | (simp; done) | (simp; omega))) | (with_reducible refine BlkR ?_ ?_; (first | omega | (dsimp only; omega) | (simp; done) | (simp; omega))))), BlkN (by simp), ⟨World.ownsRow_nil _ _ _ _, fun h hh => by cases hh⟩, goes_start l⟩
    case round =>
      obtain ⟨x, last, at_, Ar, cr, hs, rfl, rfl, hat, hlo, hhi, hln, hx, b2, b4, b5, hown, hgo⟩ := hrel
      have Hown := Lib.hid hown
      have Hgo := Lib.hid hgo
      have k2 : wr.cell? ⟨w.heap.size, 0, none⟩ = some (.slice Ar hs.length cr) := b2.cell 0
      have f2 := b2.frozen 0
      have k4 : wr.cell? ⟨w.heap.size + 1, 0, none⟩ = some (.int .i64 0) := b4.cell 0
      have f4 := b4.frozen 0
      have k5 : wr.cell? ⟨w.heap.size + 1 + 1, 1, none⟩ = some (.int .i64 (at_ : Nat)) := b5.cell 1
      clear hown hgo
      have B2 := Lib.hid b2
      have B4 := Lib.hid b4
      have B5 := Lib.hid b5
      clear b2 b4 b5
      by_cases hlt : at_ < n
      · obtain ⟨⟨f, m, E⟩, hnx⟩ : ∃ x, x = next (l.drop at_) last := ⟨_, rfl⟩
        by_cases hE : E = 0
        · subst hE
          obtain ⟨p1, p2, p3, p4⟩ := next_pos hnx.symm hlo
          rw [List.length_drop] at p2
          have hgo2 := goes_step Hgo.out hlo (by have := Hll.out; omega) hnx.symm
          have Hgo2 := Lib.hid hgo2
          have hm1 : at_ + m ≤ n := by have := Hll.out; omega
          have Kf := Lib.hid (field_ok w A n c at_ (w.heap.size + 1 + 1) last l wr B5.out Hr.out hx (by omega) (by omega) hnc hn1 hlo hhi f m hnx.symm)
          have q5 := B5.out.lt
          clear hnx p2 hgo2
          go_wp2_with (first
            | (go_at_call 69; go_must (with_reducible refine (Kf.out).mono ?_); rintro e w1 ⟨A1, c1, he, hg1, b5, hown1⟩; unfold fcells at he; subst he; have c2 := BlkG B2.out hg1 (by intro h; have := Option.some.inj h; omega); have c4 := BlkG B4.out hg1 (by intro h; have := Option.some.inj h; omega); have k2 : w1.cell? ⟨w.heap.size, 0, none⟩ = some (.slice Ar hs.length cr) := c2.cell 0; have k3 : (w1.alloc (.cells #[.int .i64 f.tag, .bool f.text, .int .u64 (f.num : Nat), .slice A1 f.bytes.length c1] 54)).cell? ⟨w.heap.size, 0, none⟩ = some (.slice Ar hs.length cr) := (BlkA c2).cell 0; have hz := hg1.size; have hz2 : w.heap.size + 1 + 1 < w1.heap.size := (by omega); have hx1 : Ext w w1 := Ext.grown hx hg1 (by intro r hr; cases hr; omega); have Hf := Lib.hid (OwnFs.grownOff Hown.out hg1 B5.out (by decide) (by decide)))
            | (at_builtin; go_must (refine wpF_append rfl (.tmp 31) (.tmp 33) rfl w rfl ((Hf.out.1.alloc _).alloc _) (ExtA (ExtA hx1)) rfl (rdF_new _ _ f A1 c1 (by simp)) (by simp; omega) ?_); intro A3 n3 c3 w3 hx3 hn3 hown3 hk3 hu3 hg3; have d2 := hk3 _ 48 _ (by decide) (BlkA (BlkA c2)); have d4 := hk3 _ 31 _ (by decide) (BlkA (BlkA c4)); have d5 := hk3 _ 116 _ (by decide) (BlkA (BlkA b5)); have m2 : w3.cell? ⟨w.heap.size, 0, none⟩ = some (.slice Ar hs.length cr) := d2.cell 0; have g2 := d2.frozen 0))
          have hn : n3 = (hs ++ [(f, A1, c1)]).length := by rw [hn3.out]; simp
          subst hn
          go_roundg (n - (at_ + m))
          case measure => omega
          case rel =>
            refine ⟨_, f.tag, at_ + m, A3, c3, hs ++ [(f, A1, c1)], rfl, rfl, by omega, by omega, p4, by simp; omega, (by repeat (first | with_reducible exact Below.refl _ _ | with_reducible assumption | with_reducible refine ExtD ?_ | with_reducible refine ExtDN ?_ | with_reducible refine ExtA ?_ | (with_reducible refine ExtR ?_ ?_; (first | omega | (dsimp only; omega) | (simp; done) | (simp; omega))) | (with_reducible refine ExtS ?_ ?_; (first | omega | (dsimp only; omega) | (simp; done) | (simp; omega))) | with_reducible refine Ext.tr ?_ (by with_reducible assumption))), BlkS d2, BlkF (by dsimp only; omega) d4, BlkF (by dsimp only; omega) d5, ?_, by rw [List.map_append]; exact Hgo2.out⟩
            refine ⟨own_setOff hown3 d2 (by decide), fun h hh => own_setOff (hu3 _ _ _ _ ?_) d2 (by decide)⟩
            rcases List.mem_append.1 hh with hh | hh
            · exact ((Hf.out.2 h hh).alloc _).alloc _
            · simp only [List.mem_singleton] at hh
              subst hh
              exact own_base ((hown1.alloc _).alloc _) (by omega)
        · have Kf := Lib.hid (field_bad w A n c at_ (w.heap.size + 1 + 1) last l wr B5.out Hr.out hx (by omega) (by omega) hnc hn1 hlo hhi E (by rw [← hnx]) hE)
          have HD : Hid (dec l = ([], at_, E)) := Lib.hid (by rw [Hdec.out]; exact goes_bad Hgo.out (by have := Hll.out; omega) (by rw [← hnx]) hE)
          clear hnx hE
          go_wp2_with (go_at_call 69; go_must (with_reducible refine (Kf.out).mono ?_); rintro e w1 ⟨he, hg1⟩; unfold ErrPanic at he; subst he)
          have c2 := BlkG B2.out hg1 (by intro h; have := Option.some.inj h; omega)
          have c4 := BlkG B4.out hg1 (by intro h; have := Option.some.inj h; omega)
          refine leaves_cons (f := 68) (args := #[.pointer (some ⟨w.heap.size, 0, none⟩), .pointer (some ⟨w.heap.size + 1, 0, none⟩)]) (by simp) (by simp [go_sem]) ?_
          refine (dcatch_panic ⟨w.heap.size, 0, none⟩ ⟨w.heap.size + 1, 0, none⟩ _ _ _ [] _ (c2.cell 0) (c4.cell 0) (c2.frozen 0) (c4.frozen 0) (by simp)).mono ?_
          rintro e u' w'' ⟨rfl, rfl, rfl⟩
          simp only [settle, List.dropWhile_nil]
          have e2 : Blk ((w1.setCell ⟨w.heap.size, 0, none⟩ (.slice none 0 0)).setCell ⟨w.heap.size + 1, 0, none⟩ (.int .i64 (E : Nat))) w.heap.size 48 #[.slice none 0 0] := BlkF (by dsimp only; omega) (BlkS c2)
          have e3 : Blk ((w1.setCell ⟨w.heap.size, 0, none⟩ (.slice none 0 0)).setCell ⟨w.heap.size + 1, 0, none⟩ (.int .i64 (E : Nat))) (w.heap.size + 1) 31 #[.int .i64 (E : Nat)] := BlkS (BlkF (by dsimp only; omega) c4)
          refine ⟨_, results_ctc rfl _ _ rfl rfl rfl (load_cell Try.underlying48 rfl (e2.cell 0)) (load_cell Try.underlying31 rfl (e3.cell 0)), ?_⟩
          unfold DecPost
          rw [HD.out]
          have hx1 : Ext w w1 := Ext.grown hx hg1 (by intro r hr; cases hr; omega)
          exact ⟨none, 0, [], rfl, (by repeat (first | with_reducible exact Below.refl _ _ | with_reducible assumption | with_reducible refine ExtD ?_ | with_reducible refine ExtDN ?_ | with_reducible refine ExtA ?_ | (with_reducible refine ExtR ?_ ?_; (first | omega | (dsimp only; omega) | (simp; done) | (simp; omega))) | (with_reducible refine ExtS ?_ ?_; (first | omega | (dsimp only; omega) | (simp; done) | (simp; omega))) | with_reducible refine Ext.tr ?_ (by with_reducible assumption))), ⟨World.ownsRow_nil _ _ _ _, fun h hh => by cases hh⟩, rfl⟩
      · have HD : Hid (dec l = (hs.map (·.1), 0, 0)) := Lib.hid (by rw [Hdec.out]; exact goes_end Hgo.out (by have := Hll.out; omega))
        go_wp2_with fail
        refine leaves_cons (f := 68) (args := #[.pointer (some ⟨w.heap.size, 0, none⟩), .pointer (some ⟨w.heap.size + 1, 0, none⟩)]) (by simp) (by simp [go_sem]) ?_
        refine (dcatch_idle ⟨w.heap.size, 0, none⟩ ⟨w.heap.size + 1, 0, none⟩ _).mono ?_
        rintro e u' w'' ⟨rfl, rfl, rfl⟩
        have e2 : Blk ((wr.setCell ⟨w.heap.size, 0, none⟩ (.slice Ar hs.length cr)).setCell ⟨w.heap.size + 1, 0, none⟩ (.int .i64 0)) w.heap.size 48 #[.slice Ar hs.length cr] := BlkF (by dsimp only; omega) (BlkS B2.out)
        have e3 : Blk ((wr.setCell ⟨w.heap.size, 0, none⟩ (.slice Ar hs.length cr)).setCell ⟨w.heap.size + 1, 0, none⟩ (.int .i64 0)) (w.heap.size + 1) 31 #[.int .i64 0] := BlkS (BlkF (by dsimp only; omega) B4.out)
        refine ⟨_, results_ctc rfl _ _ rfl rfl rfl (load_cell Try.underlying48 rfl (e2.cell 0)) (load_cell Try.underlying31 rfl (e3.cell 0)), ?_⟩
        unfold DecPost
        rw [HD.out]
        have hl2 : (hs.map (·.1)).length = hs.length := List.length_map ..
        refine ⟨Ar, cr, hs, ?_, (by repeat (first | with_reducible exact Below.refl _ _ | with_reducible assumption | with_reducible refine ExtD ?_ | with_reducible refine ExtDN ?_ | with_reducible refine ExtA ?_ | (with_reducible refine ExtR ?_ ?_; (first | omega | (dsimp only; omega) | (simp; done) | (simp; omega))) | (with_reducible refine ExtS ?_ ?_; (first | omega | (dsimp only; omega) | (simp; done) | (simp; omega))) | with_reducible refine Ext.tr ?_ (by with_reducible assumption))), ?_, rfl⟩
        · dsimp only; rw [hl2]; rfl
        · dsimp only; rw [hl2]
          exact OwnFs.setOff (OwnFs.setOff Hown.out B2.out (by decide) (by decide)) (BlkF (by dsimp only; omega) B4.out) (by decide) (by decide)
end Go.Proofs.Ytipdilmlodakoaa
