/-
  The law's one and head of chapter 17.
-/
import Derived.Test.YtjajbbgebblalaaGreatDoorBkN
import Derived.Test.YtjajbbgebblalaaGreatDoorBkE
namespace Go.Proofs.YtjajbbgebblalaaGreatDoor
open Go.RowKit
set_option linter.unusedVariables false
set_option linter.unusedSimpArgs false
def oneSt : St := ⟨7, 0, 0, 0, 0, [], 0, 0, 1, 1, 0, ⟨#[]⟩⟩
theorem one_ok : bookB 0 [oneSt] = true := by decide
theorem one_bytes : bkE 3 9 [oneSt] = (layF (bkF 3 9 [oneSt]), 0) := bkE_ok (by decide) (by decide) (by decide) (by decide) one_ok
theorem bone_len : (layF (bkF 3 9 [oneSt])).length = 68 := by
  show (layF [(6, 3, venc 9), stF oneSt, (7, 3, venc 1)]).length = 68
  simp only [layF, List.flatMap_cons, List.flatMap_nil, List.length_append, frB_len, List.length_nil]
  have h1 : (venc 9).length = 1 := by decide +kernel
  have h2 : (venc 1).length = 1 := by decide +kernel
  have h3 : (encR (refF oneSt)).length = 6 := by decide +kernel
  show 20 + (venc 9).length + (20 + (encR (refF oneSt)).length + (20 + (venc 1).length + 0)) = 68
  omega
theorem bone_any (w : World) : Calls Tryz.prog 73 #[] w fun e w' => e = .returned (.slice (some ⟨w.heap.size, 0, none⟩) 1 1) ∧ w' = w.alloc (.cells #[.int .i64 7, .int .i64 0, .int .i64 0, .int .i64 0, .int .i64 0, .slice none 0 0, .int .i64 0, .int .i64 0, .int .i64 1, .int .i64 1, .int .i64 0, .string ⟨#[]⟩] 77) := by
  go_enter Tryz.func73, Tryz.ntmps73
  go_wp2_with fail
  go_ret
  exact ⟨rfl, rfl⟩
theorem one_rd {w : World} {g : Nat} (hg : w.heap.size = g) : SsRd (w.alloc (.cells #[.int .i64 7, .int .i64 0, .int .i64 0, .int .i64 0, .int .i64 0, .slice none 0 0, .int .i64 0, .int .i64 0, .int .i64 1, .int .i64 1, .int .i64 0, .string ⟨#[]⟩] 77)) (some ⟨g, 0, none⟩) 1 [oneSt] :=
  ⟨[(oneSt, none, 0)], rfl, ss_new w g oneSt none 0 hg, fun h hh => by
    rw [List.mem_singleton.1 hh]
    exact ⟨rfl, fun h => absurd h (Nat.lt_irrefl 0)⟩⟩
theorem one_sm : SsSm [oneSt] := fun s hs => by
  rw [List.mem_singleton.1 hs]
  exact ⟨Nat.zero_le _, Nat.zero_le _⟩
set_option maxRecDepth 100000 in
set_option maxHeartbeats 4000000 in
theorem bhead_any (w : World) (hN : Nib w) : Calls Tryz.prog 25 #[] w fun e w' => e = .returned (.bool true) ∧ Ext w w' := by
  have hbs : (layF (bkF 3 9 [oneSt])).length = 68 := bone_len
  have hbd : bkD (layF (bkF 3 9 [oneSt])) = (3, 9, [oneSt], 0) := bkD_enc (by decide) (by decide) (by decide) (by decide) one_ok
  have hbe := one_bytes
  generalize layF (bkF 3 9 [oneSt]) = bs at *
  have KE : Hid (∀ A W, Ext w W → SsRd W A 1 [oneSt] → Calls Tryz.prog 28 #[.int .i64 3, .int .i64 9, .slice A 1 1] W fun e w' => ∃ A c, e = .returned (.tuple #[.slice A 68 c, .int .i64 0]) ∧ Ext W w' ∧ w'.ownsRow W.heap.size 5 1 (.slice A 68 c) 68 (u8s bs)) := Lib.hid fun A W hx h => by
    have h2 := benc_any 3 9 [oneSt] A 1 1 W (hN.ext hx) h (by decide) one_sm
    rw [hbe] at h2
    unfold BkPost at h2
    dsimp only at h2
    rw [hbs] at h2
    exact h2
  have KD : Hid (∀ A c W, Ext w W → Rd W A 68 (u8s bs) → 68 ≤ c → Calls Tryz.prog 33 #[.slice A 68 c] W fun e w' => ∃ A c hs, e = .returned (.tuple #[.int .i64 3, .int .i64 9, .slice A 1 c, .int .i64 0]) ∧ hs.map (·.1) = [oneSt] ∧ Ext W w' ∧ OwnSs w' W.heap.size A 1 c hs) := Lib.hid fun A c W hx h hc => by
    have h2 := bdec_any A 68 c bs W (hN.ext hx) h hc (by decide)
    rw [hbd] at h2
    exact h2
  have KS := Lib.hid fun A B c c2 W (h1 : SsRd W A 1 [oneSt]) (h2 : SsRd W B 1 [oneSt]) => bsame_any [oneSt] A B 1 c c2 W h1 h2 (by decide) one_sm
  have KO := Lib.hid fun W => bone_any W
  clear hbs hbd hbe hN
  go_enter Tryz.func25, Tryz.ntmps25
  go_wp2_with (first
    | (go_at_call 73; (with_reducible refine (KO.out _).mono ?_); rintro e w9 ⟨rfl, rfl⟩)
    | (go_at_call 28; (with_reducible refine (KE.out _ _ (ExtA (Ext.rfl' w)) (one_rd rfl)).mono ?_); rintro e w2 ⟨A2, c2, rfl, hx2', ho2⟩; have hx2 := (ExtA (Ext.rfl' w)).tr hx2'; clear hx2')
    | (go_at_call 33; (with_reducible refine (KD.out _ _ _ hx2 (rd_own ho2) (own_leS ho2)).mono ?_); rintro e w3 ⟨A3, c3, hs, rfl, hm, hx3, ho3⟩)
    | (go_at_call 30; (with_reducible refine (KS.out _ _ _ _ _ (rd_ss (OwnSs.ext ho3 (ExtA (Ext.rfl' w3))) hm) (one_rd rfl)).mono ?_); rintro e w6 ⟨rfl, hx6⟩))
  go_ret
  exact ⟨rfl, hx2.tr (hx3.tr ((ExtA (Ext.rfl' w3)).tr hx6))⟩
end Go.Proofs.YtjajbbgebblalaaGreatDoor
