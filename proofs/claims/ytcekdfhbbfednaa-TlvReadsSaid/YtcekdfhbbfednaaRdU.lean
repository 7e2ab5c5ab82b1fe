/-
  The walk of the reference's Find; the calls of a reader that is nil.
-/
import Derived.Test.YtcekdfhbbfednaaRdV
namespace Go.Proofs.Ytcekdfhbbfednaa
open Go.RowKit
set_option linter.unusedVariables false
set_option linter.unusedSimpArgs false
open Go.Maps
theorem res_row_t {w : World} {fn : Func} {p u : Tmp} {ty : TypeId} (h : fn.results = #[.cell p ty, .tmp u]) (tmps : Array Value) (g : Nat) (t : TypeId) (cs : Array Value) (n : Nat) (x : Value)
    (hp : tmps.getD p undef = .pointer (some ⟨g, 0, none⟩)) (hu : tmps.getD u undef = x) (hb : Blk w g t cs) (hw : Wide Try.prog ty n) (hn : cs.size = n) : (results fn tmps).run Try.prog w = .ok (.tuple #[.agg cs, x]) w := by
  have hp' : tmps[p]?.getD undef = .pointer (some ⟨g, 0, none⟩) := by simpa using hp
  have hu' : tmps[u]?.getD undef = x := by simpa using hu
  simp [results, h, hp', hu', asAddr, run_loadVar_blk hb hw hn]
def FindR (w : World) (hs : List Held) (t : Int) (c9 : Value) (wr : World) : Prop :=
  ∃ k : Nat, c9 = .int .i64 (k : Nat) ∧ k ≤ hs.length ∧ Ext (w.alloc (.cells #[.int .i64 0, .bool false, .int .u64 0, .slice none 0 0] 29)) wr ∧ ∀ x ∈ hs.take k, x.1.tag ≠ t
def foundH (hs : List Held) (t : Int) : Held := (findH hs t).getD (noFld, none, 0)
def FindPost (w : World) (hs : List Held) (t : Int) (e : Ending) (w' : World) : Prop :=
  e = .returned (.tuple #[fldV (foundH hs t), .bool (findH hs t).isSome]) ∧ Ext w w'
theorem find_at {hs : List Held} {t : Int} {k : Nat} {h : Held} (hk : hs[k]? = some h) (ht : h.1.tag = t) (hb : ∀ x ∈ hs.take k, x.1.tag ≠ t) : findH hs t = some h := by
  unfold findH
  obtain ⟨hlt, he⟩ := List.getElem?_eq_some_iff.1 hk
  rw [← List.take_append_drop k hs, List.find?_append]
  rw [List.find?_eq_none.2 (fun x hx => by simpa using hb x hx)]
  rw [List.drop_eq_getElem_cons hlt, he]
  simp [ht]
theorem find_no {hs : List Held} {t : Int} (hb : ∀ x ∈ hs, x.1.tag ≠ t) : findH hs t = none := List.find?_eq_none.2 (fun x hx => by simpa using hb x hx)
set_option maxRecDepth 100000 in
set_option maxHeartbeats 8000000 in
theorem rfind_any (w : World) (base : Nat) (A : Option Addr) (c : Nat) (hs : List Held) (t : Int) (ho : OwnFs w base A hs.length c hs) (hl : hs.length ≤ 31) :
    Calls Try.prog 36 #[.slice A hs.length c, .int .i64 t] w (FindPost w hs t) := by
  unfold FindPost
  have hx0 : Ext w (w.alloc (.cells #[.int .i64 0, .bool false, .int .u64 0, .slice none 0 0] 29)) := (by repeat (first | with_reducible exact Below.refl _ _ | with_reducible assumption | with_reducible refine ExtD ?_ | with_reducible refine ExtDN ?_ | with_reducible refine ExtA ?_ | (with_reducible refine ExtR ?_ ?_; (first | omega | (dsimp only; omega) | (simp; done) | (simp; omega))) | (with_reducible refine ExtS ?_ ?_; (first | omega | (dsimp only; omega) | (simp; done) | (simp; omega))) | with_reducible refine Ext.tr ?_ (by with_reducible assumption)))
  have z1 : ∀ v ∈ (#[.int .i64 0, .bool false, .int .u64 0, .slice none 0 0] : Array Value).toList, v.oneCell' = true := fcells_one noFld none 0
  have HO := Lib.hid ho
  clear ho
  go_enter Try.func36, Try.ntmps36
  go_wp2_with fail
  go_loopw [9] (fun d wr => FindR w hs t d wr) (fun d _ => hs.length - (intOf d).toNat)
  case atStart => exact ⟨0, rfl, by omega, Ext.rfl' _, fun x hx => by simp at hx⟩
  case round =>
    obtain ⟨k, rfl, hk, hx, hb⟩ := hrel
    have hF := HO.out.ext' (hx0.tr hx)
    have b6 : Blk wr w.heap.size 29 #[.int .i64 0, .bool false, .int .u64 0, .slice none 0 0] := BlkE (BlkN rfl) hx
    by_cases hlt : k < hs.length
    · obtain ⟨br, rfl, hbr, hcl⟩ := own_row_at hF.1 (by omega)
      obtain ⟨⟨⟨tag, tx, nm, bs⟩, Af, cf⟩, hg⟩ : ∃ h, hs[k]? = some h := ⟨_, List.getElem?_eq_getElem hlt⟩
      have e0 : wr.cell? ⟨br, k * 4, none⟩ = some (.int .i64 tag) := (hcl (k * 4 + 0) _ (by rw [fsCells_at hs k 0 _ hg (by omega)]; rfl)).1
      have e1 : wr.cell? ⟨br, k * 4 + 1, none⟩ = some (.bool tx) := (hcl (k * 4 + 1) _ (by rw [fsCells_at hs k 1 _ hg (by omega)]; rfl)).1
      have e2 : wr.cell? ⟨br, k * 4 + 2, none⟩ = some (.int .u64 (nm : Nat)) := (hcl (k * 4 + 2) _ (by rw [fsCells_at hs k 2 _ hg (by omega)]; rfl)).1
      have e3 : wr.cell? ⟨br, k * 4 + 3, none⟩ = some (.slice Af bs.length cf) := (hcl (k * 4 + 3) _ (by rw [fsCells_at hs k 3 _ hg (by omega)]; rfl)).1
      have Hg := Lib.hid hg
      have Hb := Lib.hid hb
      have zx := fcells_one ⟨tag, tx, nm, bs⟩ Af cf
      clear hcl hF hg hb
      by_cases htt : tag = t
      · have hfd := find_at Hg.out htt Hb.out
        have t0 : (tag == t) = true := by simp; exact htt
        have Hfd := Lib.hid hfd
        clear hfd htt
        go_wp2_with (change wpList _ _ _ (⟨none, .store _ (.tmp 4) (.tmp 22), _, _, _, _⟩ :: _) _ _; refine wpL_store_row rfl 29 (.tmp 4) (.tmp 22) rfl w.heap.size 29 _ _ rfl rfl b6 rfl (zx) 4 fld_wide rfl ?_)
        refine bodyPost_ret (v := .tuple #[.agg #[.int .i64 tag, .bool tx, .int .u64 (nm : Nat), .slice Af bs.length cf], .bool true]) (res_row_t rfl _ _ 29 _ 4 _ rfl rfl (Blk.setRow_ b6) fld_wide rfl) rfl ⟨by unfold foundH; rw [Hfd.out]; rfl, ?_⟩
        exact (by repeat (first | with_reducible exact Below.refl _ _ | with_reducible assumption | with_reducible refine ExtD ?_ | with_reducible refine ExtDN ?_ | with_reducible refine ExtA ?_ | (with_reducible refine ExtR ?_ ?_; (first | omega | (dsimp only; omega) | (simp; done) | (simp; omega))) | (with_reducible refine ExtS ?_ ?_; (first | omega | (dsimp only; omega) | (simp; done) | (simp; omega))) | with_reducible refine Ext.tr ?_ (by with_reducible assumption)))
      · have t0 : (tag == t) = false := by simp; exact htt
        have Ht := Lib.hid htt
        clear htt
        go_wp2_with fail
        refine And.intro ⟨k + 1, by go_num, by omega, hx, fun x hx => ?_⟩ ?_
        · rw [List.take_add_one, Hg.out] at hx
          rcases List.mem_append.1 hx with hx | hx
          · exact Hb.out x hx
          · simp at hx
            rw [hx]
            exact Ht.out
        · simp [intOf]; omega
    · obtain rfl : k = hs.length := by omega
      rw [List.take_length] at hb
      have hfd := find_no hb
      have Hfd := Lib.hid hfd
      clear hfd hb hF
      go_wp2_with (change wpList _ _ _ (⟨none, .store _ (.tmp 4) (.tmp 24), _, _, _, _⟩ :: _) _ _; refine wpL_store_row rfl 29 (.tmp 4) (.tmp 24) rfl w.heap.size 29 _ _ rfl rfl b6 rfl (z1) 4 fld_wide rfl ?_)
      refine bodyPost_ret (v := .tuple #[.agg #[.int .i64 0, .bool false, .int .u64 0, .slice none 0 0], .bool false]) (res_row_t rfl _ _ 29 _ 4 _ rfl rfl (Blk.setRow_ b6) fld_wide rfl) rfl ⟨by unfold foundH; rw [Hfd.out]; rfl, ?_⟩
      exact (by repeat (first | with_reducible exact Below.refl _ _ | with_reducible assumption | with_reducible refine ExtD ?_ | with_reducible refine ExtDN ?_ | with_reducible refine ExtA ?_ | (with_reducible refine ExtR ?_ ?_; (first | omega | (dsimp only; omega) | (simp; done) | (simp; omega))) | (with_reducible refine ExtS ?_ ?_; (first | omega | (dsimp only; omega) | (simp; done) | (simp; omega))) | with_reducible refine Ext.tr ?_ (by with_reducible assumption)))
set_option maxRecDepth 100000 in
set_option maxHeartbeats 4000000 in
theorem take_nil (w : World) (t : Int) (tx : Bool) : Calls Try.prog 49 #[.pointer none, .int .i64 t, .bool tx] w fun e w' => e = .returned (.agg #[.int .i64 0, .bool false, .int .u64 0, .slice none 0 0]) ∧ Ext w w' := by
  have z1 : ∀ v ∈ (#[.int .i64 0, .bool false, .int .u64 0, .slice none 0 0] : Array Value).toList, v.oneCell' = true := fcells_one noFld none 0
  have b6 : Blk (w.alloc (.cells #[.int .i64 0, .bool false, .int .u64 0, .slice none 0 0] 29)) w.heap.size 29 #[.int .i64 0, .bool false, .int .u64 0, .slice none 0 0] := BlkN rfl
  go_enter Try.func49, Try.ntmps49
  go_wp2_with (change wpList _ _ _ (⟨none, .store _ (.tmp 6) (.tmp 11), _, _, _, _⟩ :: _) _ _; refine wpL_store_row rfl 29 (.tmp 6) (.tmp 11) rfl w.heap.size 29 _ _ rfl rfl b6 rfl (z1) 4 fld_wide rfl ?_)
  refine bodyPost_ret (v := .agg #[.int .i64 0, .bool false, .int .u64 0, .slice none 0 0]) (res_row rfl _ _ _ 29 _ 4 rfl (Blk.setRow_ b6) fld_wide rfl) rfl ⟨rfl, ?_⟩
  exact (by repeat (first | with_reducible exact Below.refl _ _ | with_reducible assumption | with_reducible refine ExtD ?_ | with_reducible refine ExtDN ?_ | with_reducible refine ExtA ?_ | (with_reducible refine ExtR ?_ ?_; (first | omega | (dsimp only; omega) | (simp; done) | (simp; omega))) | (with_reducible refine ExtS ?_ ?_; (first | omega | (dsimp only; omega) | (simp; done) | (simp; omega))) | with_reducible refine Ext.tr ?_ (by with_reducible assumption)))
set_option maxRecDepth 100000 in
set_option maxHeartbeats 4000000 in
theorem rnum_nil (w : World) (t : Int) : Calls Try.prog 31 #[.pointer none, .int .i64 t] w fun e w' => e = .returned (.int .u64 0) ∧ Ext w w' := by
  have K := Lib.hid fun W => take_nil W t false
  have kf2 : ∀ (a b c d : Value) (w : World), (Instr.field 29 (.agg #[a, b, c, d]) 2).run Try.prog w = .ok c w := fun _ _ _ _ _ => by kernel_rfl
  go_enter Try.func31, Try.ntmps31
  go_wp2_with (go_at_call 49; (with_reducible refine (K.out _).mono ?_); rintro e w1 ⟨rfl, hx⟩)
  go_ret
  exact ⟨rfl, hx⟩
set_option maxRecDepth 100000 in
set_option maxHeartbeats 4000000 in
theorem rtext_nil (w : World) (t : Int) : Calls Try.prog 33 #[.pointer none, .int .i64 t] w fun e w' => e = .returned (.slice none 0 0) ∧ Ext w w' := by
  have K := Lib.hid fun W => take_nil W t true
  have kf3 : ∀ (a b c d : Value) (w : World), (Instr.field 29 (.agg #[a, b, c, d]) 3).run Try.prog w = .ok d w := fun _ _ _ _ _ => by kernel_rfl
  go_enter Try.func33, Try.ntmps33
  go_wp2_with (go_at_call 49; (with_reducible refine (K.out _).mono ?_); rintro e w1 ⟨rfl, hx⟩)
  go_ret
  exact ⟨rfl, hx⟩
set_option maxRecDepth 100000 in
set_option maxHeartbeats 4000000 in
theorem rint_nil (w : World) (t : Int) : Calls Try.prog 32 #[.pointer none, .int .i64 t] w fun e w' => e = .returned (.int .i64 0) ∧ Ext w w' := by
  have K := Lib.hid fun W => rnum_nil W t
  have KZ : Hid (∀ W, Calls Try.prog 50 #[.int .u64 0] W fun e w' => e = .returned (.int .i64 0) ∧ Ext W w') := Lib.hid fun W => zag_any 0 (by decide) W
  go_enter Try.func32, Try.ntmps32
  go_wp2_with (first
    | (go_at_call 31; (with_reducible refine (K.out _).mono ?_); rintro e w1 ⟨rfl, hx⟩)
    | (go_at_call 50; (with_reducible refine (KZ.out _).mono ?_); rintro e w2 ⟨rfl, hx2⟩))
  go_ret
  exact ⟨rfl, hx.tr hx2⟩
set_option maxRecDepth 100000 in
set_option maxHeartbeats 4000000 in
theorem rest_nil (w : World) : Calls Try.prog 34 #[.pointer none] w fun e w' => e = .returned (.slice none 0 0) ∧ Ext w w' := by
  go_enter Try.func34, Try.ntmps34
  go_wp2_with fail
  go_ret
  exact ⟨rfl, (by repeat (first | with_reducible exact Below.refl _ _ | with_reducible assumption | with_reducible refine ExtD ?_ | with_reducible refine ExtDN ?_ | with_reducible refine ExtA ?_ | (with_reducible refine ExtR ?_ ?_; (first | omega | (dsimp only; omega) | (simp; done) | (simp; omega))) | (with_reducible refine ExtS ?_ ?_; (first | omega | (dsimp only; omega) | (simp; done) | (simp; omega))) | with_reducible refine Ext.tr ?_ (by with_reducible assumption)))⟩
set_option maxRecDepth 100000 in
set_option maxHeartbeats 4000000 in
theorem rerr_nil (w : World) : Calls Try.prog 35 #[.pointer none] w fun e w' => e = .returned (.int .i64 1) ∧ Ext w w' := by
  go_enter Try.func35, Try.ntmps35
  go_wp2_with fail
  go_ret
  exact ⟨rfl, (by repeat (first | with_reducible exact Below.refl _ _ | with_reducible assumption | with_reducible refine ExtD ?_ | with_reducible refine ExtDN ?_ | with_reducible refine ExtA ?_ | (with_reducible refine ExtR ?_ ?_; (first | omega | (dsimp only; omega) | (simp; done) | (simp; omega))) | (with_reducible refine ExtS ?_ ?_; (first | omega | (dsimp only; omega) | (simp; done) | (simp; omega))) | with_reducible refine Ext.tr ?_ (by with_reducible assumption)))⟩
end Go.Proofs.Ytcekdfhbbfednaa
