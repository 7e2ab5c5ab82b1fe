/-
  The walk of the reference's Decode of fields.
-/
import Derived.Test.YtcekdfhbbfednaaRefN
import Derived.Test.YtcekdfhbbfednaaDecW
namespace Go.Proofs.Ytcekdfhbbfednaa
open Go.RowKit
set_option linter.unusedVariables false
set_option linter.unusedSimpArgs false
def RDecR (W : World) (n : Nat) (l : List UInt8) (c5 c6 c7 : Value) (wr : World) : Prop :=
  ∃ (last : Int) (at_ : Nat) (Ar : Option Addr) (cr : Nat) (hs : List Held), c5 = .slice Ar hs.length cr ∧ c6 = .int .i64 last ∧ c7 = .int .i64 at_ ∧ at_ ≤ n ∧ 0 ≤ last ∧ last ≤ 31 ∧ hs.length ≤ at_ ∧ Ext W wr ∧
    OwnFs wr W.heap.size Ar hs.length cr hs ∧ Goes l (hs.map (·.1)) last at_
set_option maxRecDepth 100000 in
set_option maxHeartbeats 4000000 in
theorem rdec_any (A : Option Addr) (n c : Nat) (l : List UInt8) (w : World) (hr : Rd w A n (u8s l)) (hnc : n ≤ c) (hn : n ≤ maxLen) :
    Calls Try.prog 20 #[.slice A n c] w (DecPost w l) := by
  unfold maxLen at hn
  have hll : l.length = n := by have := hr.1; rw [u8s_len] at this; exact this
  by_cases hbig : 1024 < n
  · have Hd : Hid (dec l = ([], 0, 24)) := Lib.hid (by rw [dec_eq, if_pos (by omega)])
    clear hll hr
    go_enter Try.func20, Try.ntmps20
    go_wp2_with fail
    go_ret3
    unfold DecPost
    rw [Hd.out]
    exact ⟨none, 0, [], rfl, (by repeat (first | with_reducible exact Below.refl _ _ | with_reducible assumption | with_reducible refine ExtD ?_ | with_reducible refine ExtDN ?_ | with_reducible refine ExtA ?_ | (with_reducible refine ExtR ?_ ?_; (first | omega | (dsimp only; omega) | (simp; done) | (simp; omega))) | (with_reducible refine ExtS ?_ ?_; (first | omega | (dsimp only; omega) | (simp; done) | (simp; omega))) | with_reducible refine Ext.tr ?_ (by with_reducible assumption))), ⟨World.ownsRow_nil _ _ _ _, fun h hh => by cases hh⟩, rfl⟩
  · have hn1 : n ≤ 1024 := by omega
    have Hdec : Hid (dec l = decA l 0 0) := Lib.hid (by rw [dec_eq, if_neg (by omega)])
    have Hll := Lib.hid hll
    have Hr := Lib.hid hr
    clear hll hbig hr
    go_enter Try.func20, Try.ntmps20
    go_wp2_with fail
    go_loopw [5, 6, 7] (fun c5 c6 c7 wr => RDecR w n l c5 c6 c7 wr) (fun _ _ c7 _ => n - (intOf c7).toNat)
    case atStart => exact ⟨0, 0, _, _, [], rfl, rfl, rfl, by omega, by omega, by omega, by simp, (by repeat (first | with_reducible exact Below.refl _ _ | with_reducible assumption | with_reducible refine ExtD ?_ | with_reducible refine ExtDN ?_ | with_reducible refine ExtA ?_ | (with_reducible refine ExtR ?_ ?_; (first | omega | (dsimp only; omega) | (simp; done) | (simp; omega))) | (with_reducible refine ExtS ?_ ?_; (first | omega | (dsimp only; omega) | (simp; done) | (simp; omega))) | with_reducible refine Ext.tr ?_ (by with_reducible assumption))), ⟨own_new w w.heap.size #[] _ 0 (Nat.le_refl _) (by decide) rfl, fun h hh => by cases hh⟩, goes_start l⟩
    case round =>
      obtain ⟨last, at_, Ar, cr, hs, rfl, rfl, rfl, hat, hlo, hhi, hln, hx, hown, hgo⟩ := hrel
      have Hown := Lib.hid hown
      have Hgo := Lib.hid hgo
      clear hown hgo
      by_cases hlt : at_ < n
      · obtain ⟨A', hsl, hrd⟩ := slice_lo A n c at_ hat hnc
        obtain ⟨⟨f, m, E⟩, hnx⟩ : ∃ x, x = next (l.drop at_) last := ⟨_, rfl⟩
        have Kn : Hid (Calls Try.prog 43 #[.slice A' (n - at_) (c - at_), .int .i64 last] wr (NextPost wr (f, m, E))) := Lib.hid (by rw [hnx]; exact next_any A' (n - at_) (c - at_) last (l.drop at_) wr (hrd wr l (Hr.out.ext hx)) (by omega) (by omega) hlo hhi)
        clear hrd
        by_cases hE : E = 0
        · subst hE
          obtain ⟨p1, p2, p3, p4⟩ := next_pos hnx.symm hlo
          rw [List.length_drop] at p2
          have hgo2 := goes_step Hgo.out hlo (by have := Hll.out; omega) hnx.symm
          have Hgo2 := Lib.hid hgo2
          have hm1 : at_ + m ≤ n := by have := Hll.out; omega
          clear hnx p2 hgo2
          go_wp2_with (first
            | (go_at_call 43; go_must (with_reducible refine (Kn.out).mono ?_); rintro e w1 ⟨A1, c1, he, hx1, hown1⟩; unfold fcells at he; dsimp only at he hown1; subst he; have Hf := Lib.hid (OwnFs.ext Hown.out hx1); have Hown1 := Lib.hid hown1; clear hown1)
            | (at_builtin; go_must (refine wpF_append rfl (.tmp 32) (.tmp 34) rfl w rfl ((Hf.out.1.alloc _).alloc _) (ExtA (ExtA (hx.tr hx1))) rfl (rdF_new _ _ f A1 c1 (by simp)) (by simp; omega) ?_); intro A3 n3 c3 w3 hx3 hn3 hown3 hk3 hu3 hg3; have d8 : Blk w3 w1.heap.size 29 #[.int .i64 f.tag, .bool f.text, .int .u64 (f.num : Nat), .slice A1 f.bytes.length c1] := BlkG (BlkA (BlkN rfl)) hg3 (fun h => (by have := (Hf.out.1.lt _ h.symm).2; omega)); have e8 : w3.cell? ⟨w1.heap.size, 0, none⟩ = some (.int .i64 f.tag) := d8.cell 0; have Hu3 := Lib.hid hu3; clear hk3 hu3 hg3))
          have hn : n3 = (hs ++ [(f, A1, c1)]).length := by rw [hn3.out]; simp
          subst hn
          go_roundw
          case rel =>
            refine ⟨f.tag, at_ + m, A3, c3, hs ++ [(f, A1, c1)], rfl, rfl, by go_num, by omega, by omega, p4, by simp; omega, hx3, ?_, by rw [List.map_append]; exact Hgo2.out⟩
            refine ⟨hown3, fun h hh => Hu3.out _ _ _ _ ?_⟩
            rcases List.mem_append.1 hh with hh | hh
            · exact ((Hf.out.2 h hh).alloc _).alloc _
            · simp only [List.mem_singleton] at hh
              subst hh
              exact own_base ((Hown1.out.alloc _).alloc _) hx.size
          case measure => simp [intOf]; omega
        · have HD : Hid (dec l = ([], at_, E)) := Lib.hid (by rw [Hdec.out]; exact goes_bad Hgo.out (by have := Hll.out; omega) (by rw [← hnx]) hE)
          have t0 : ((E : Int) != 0) = true := by simp; exact hE
          clear hnx hE
          go_wp2_with (go_at_call 43; go_must (with_reducible refine (Kn.out).mono ?_); rintro e w1 ⟨A1, c1, he, hx1, hown1⟩; unfold fcells at he; dsimp only at he hown1; subst he)
          go_ret3
          unfold DecPost
          rw [HD.out]
          exact ⟨none, 0, [], rfl, (by repeat (first | with_reducible exact Below.refl _ _ | with_reducible assumption | with_reducible refine ExtD ?_ | with_reducible refine ExtDN ?_ | with_reducible refine ExtA ?_ | (with_reducible refine ExtR ?_ ?_; (first | omega | (dsimp only; omega) | (simp; done) | (simp; omega))) | (with_reducible refine ExtS ?_ ?_; (first | omega | (dsimp only; omega) | (simp; done) | (simp; omega))) | with_reducible refine Ext.tr ?_ (by with_reducible assumption))), ⟨World.ownsRow_nil _ _ _ _, fun h hh => by cases hh⟩, rfl⟩
      · have HD : Hid (dec l = (hs.map (·.1), 0, 0)) := Lib.hid (by rw [Hdec.out]; exact goes_end Hgo.out (by have := Hll.out; omega))
        go_wp2_with fail
        go_ret3
        unfold DecPost
        rw [HD.out]
        have hl2 : (hs.map (·.1)).length = hs.length := List.length_map ..
        refine ⟨Ar, cr, hs, ?_, (by repeat (first | with_reducible exact Below.refl _ _ | with_reducible assumption | with_reducible refine ExtD ?_ | with_reducible refine ExtDN ?_ | with_reducible refine ExtA ?_ | (with_reducible refine ExtR ?_ ?_; (first | omega | (dsimp only; omega) | (simp; done) | (simp; omega))) | (with_reducible refine ExtS ?_ ?_; (first | omega | (dsimp only; omega) | (simp; done) | (simp; omega))) | with_reducible refine Ext.tr ?_ (by with_reducible assumption))), ?_, rfl⟩
        · dsimp only; rw [hl2]; rfl
        · dsimp only; rw [hl2]
          exact Hown.out
end Go.Proofs.Ytcekdfhbbfednaa
