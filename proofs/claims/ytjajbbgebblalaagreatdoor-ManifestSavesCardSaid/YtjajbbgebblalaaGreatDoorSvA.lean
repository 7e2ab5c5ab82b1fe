/-
  The document's saves as steps of a disk; the walk of chapter 16's size.
-/
/-
  The walk of ManifestSaves.
-/
import Derived.Test.YtjajbbgebblalaaGreatDoorSwB
import Derived.Test.YtjajbbgebblalaaGreatDoorRfM
import Derived.Test.YtjajbbgebblalaaGreatDoorRfG
import Derived.Test.YtjajbbgebblalaaGreatDoorFvB
namespace Go.Proofs.YtjajbbgebblalaaGreatDoor
open Go.RowKit
set_option linter.unusedVariables false
set_option linter.unusedSimpArgs false
open Go.Maps
/-- The document's disk and error behind k of the four calls. -/
def rsN (d : Dk) (b : List UInt8) (E : Nat) : Nat → Dk × Nat
  | 0 => (d, E)
  | k + 1 => if (rsN d b E k).2 ≠ 0 then rsN d b E k else stpN (rsN d b E k).1 b k
theorem rsN_bad {d : Dk} {b : List UInt8} {E : Nat} (h : E ≠ 0) (k : Nat) : rsN d b E k = (d, E) := by
  induction k with
  | zero => rfl
  | succ k ih => unfold rsN; rw [ih, if_pos h]
theorem rsN_sv (d : Dk) (b : List UInt8) : rsN d b 0 4 = sv4 d b := by
  have h1 : rsN d b 0 1 = sv1 d := if_neg (fun h => h rfl)
  have h2 : rsN d b 0 2 = sv2 d b := by
    show (if (rsN d b 0 1).2 ≠ 0 then rsN d b 0 1 else stpN (rsN d b 0 1).1 b 1) = _
    rw [h1]; rfl
  have h3 : rsN d b 0 3 = sv3 d b := by
    show (if (rsN d b 0 2).2 ≠ 0 then rsN d b 0 2 else stpN (rsN d b 0 2).1 b 2) = _
    rw [h2]; rfl
  show (if (rsN d b 0 3).2 ≠ 0 then rsN d b 0 3 else stpN (rsN d b 0 3).1 b 3) = _
  rw [h3]; rfl
theorem rs_save (d : Dk) (m : Mf) : rsN d (manE m).1 (manE m).2 4 = saveD d m := by
  unfold saveD
  by_cases h : (manE m).2 = 0
  · rw [if_neg (by simp [h]), h, rsN_sv]
  · rw [if_pos h, rsN_bad h]
theorem stpN_inv {d : Dk} (h : DkInv d) (b : List UInt8) (k : Nat) : DkInv (stpN d b k).1 := by
  unfold stpN
  split
  · exact inv_create h _
  · exact inv_append h _ _
  · exact inv_sync h _
  · exact inv_rename h _ _
theorem stpN_steps (d : Dk) (b : List UInt8) (k : Nat) : (stpN d b k).1.steps ≤ d.steps + 1 := by
  unfold stpN
  split
  · exact (createD_steps _ _).2
  · exact (appD_steps _ _ _).2
  · exact (syncD_steps _ _).2
  · exact (renameD_steps _ _ _).2
theorem rsN_inv {d : Dk} (h : DkInv d) (b : List UInt8) (E k : Nat) : DkInv (rsN d b E k).1 := by
  induction k with
  | zero => exact h
  | succ k ih => unfold rsN; split; exact ih; exact stpN_inv ih _ _
theorem rsN_steps (d : Dk) (b : List UInt8) (E k : Nat) : (rsN d b E k).1.steps ≤ d.steps + (k : Nat) := by
  induction k with
  | zero => show d.steps ≤ _; omega
  | succ k ih => unfold rsN; split; · omega
                 have := stpN_steps (rsN d b E k).1 b k; omega
def svOp (b : List UInt8) (A : Option Addr) (c : Nat) : Nat → HO
  | 0 => (⟨0, nmT, ⟨#[]⟩, [], 0, 0, []⟩, (none, 0), (none, 0))
  | 1 => (⟨1, nmT, ⟨#[]⟩, b, 0, 0, []⟩, (A, c), (none, 0))
  | 2 => (⟨2, nmT, ⟨#[]⟩, [], 0, 0, []⟩, (none, 0), (none, 0))
  | _ => (⟨3, nmT, nmM, [], 0, 0, []⟩, (none, 0), (none, 0))
theorem svOp_call (d : Dk) (b : List UInt8) (A : Option Addr) (c k : Nat) : callD d (svOp b A c k).1 = ((stpN d b k).1, [], 0, (stpN d b k).2) := by
  match k with
  | 0 => rfl
  | 1 => rfl
  | 2 => rfl
  | k + 3 => rfl
theorem rd_none (w : World) : Rd w none 0 [] := ⟨rfl, fun h => absurd h (Nat.lt_irrefl 0)⟩
theorem op_small (w : World) (o : HO) (h1 : Rd w o.2.1.1 o.1.b.length (u8s o.1.b)) (h2 : o.1.b.length ≤ 140737488351232) (h3 : o.2.2.1 = none) (h4 : o.1.keep = []) (h5 : 0 ≤ o.1.k ∧ o.1.k ≤ 9) (h6 : IsI64 o.1.n) (h7 : o.1.m = 0) : OpOk w o := by
  refine ⟨⟨h1, h2⟩, ⟨?_, ?_, ?_⟩, ⟨by omega, by omega⟩, h6, ?_⟩
  · rw [h3, h4]; exact rd_none w
  · rw [h4]; decide
  · rw [h4]; intro x hx; cases hx
  · rw [h7]; exact ⟨by decide, by decide⟩
theorem svOp_ok (w : World) (b : List UInt8) (A : Option Addr) (c k : Nat) (hr : Rd w A b.length (u8s b)) (hl : b.length ≤ 140737488351232) : OpOk w (svOp b A c k) := by
  match k with
  | 0 => exact op_small w _ (rd_none w) (by decide : (0:Nat) ≤ 140737488351232) rfl rfl ⟨(by decide : (0:Int) ≤ 0), (by decide : (0:Int) ≤ 9)⟩ ⟨(by decide : (-9223372036854775808:Int) ≤ 0), (by decide : (0:Int) ≤ 9223372036854775807)⟩ rfl
  | 1 => exact op_small w _ hr hl rfl rfl ⟨(by decide : (0:Int) ≤ 1), (by decide : (1:Int) ≤ 9)⟩ ⟨(by decide : (-9223372036854775808:Int) ≤ 0), (by decide : (0:Int) ≤ 9223372036854775807)⟩ rfl
  | 2 => exact op_small w _ (rd_none w) (by decide : (0:Nat) ≤ 140737488351232) rfl rfl ⟨(by decide : (0:Int) ≤ 2), (by decide : (2:Int) ≤ 9)⟩ ⟨(by decide : (-9223372036854775808:Int) ≤ 0), (by decide : (0:Int) ≤ 9223372036854775807)⟩ rfl
  | k + 3 => exact op_small w _ (rd_none w) (by decide : (0:Nat) ≤ 140737488351232) rfl rfl ⟨(by decide : (0:Int) ≤ 3), (by decide : (3:Int) ≤ 9)⟩ ⟨(by decide : (-9223372036854775808:Int) ≤ 0), (by decide : (0:Int) ≤ 9223372036854775807)⟩ rfl
def SzPost (w : World) (B0 : Nat) (A : Option Addr) (hs0 : List HV) (d : Dk) (z E : Nat) (e : Ending) (w' : World) : Prop :=
  ∃ A' n' c' hs, e = .returned (.tuple #[.agg #[.slice A' n' c', .int .i64 d.room, .int .i64 d.fuse, .bool d.down, .int .i64 d.steps, .int .i64 d.read], .int .i64 (z : Nat), .int .i64 (E : Nat)]) ∧ hs.map (·.1) = imgL d ∧ Ext w w' ∧ OwnFl w' B0 A' n' c' hs ∧ (∀ r, hvB A' hs r → hvB A hs0 r ∨ w.heap.size ≤ r)
set_option maxRecDepth 100000 in
set_option maxHeartbeats 4000000 in
theorem rsize_any {d : Dk} (hI : DkInv d) (nm : ByteArray) (A : Option Addr) (n c B0 : Nat) (hs0 : List HV) (hmap : hs0.map (·.1) = imgL d) (w : World) (hr : OwnFl w B0 A n c hs0) (hB : B0 ≤ w.heap.size) (hst : d.steps ≤ 4611686018427387904) :
    Calls Tryz.prog 20 #[.agg #[.slice A n c, .int .i64 d.room, .int .i64 d.fuse, .bool d.down, .int .i64 d.steps, .int .i64 d.read], .string nm] w (SzPost w B0 A hs0 d (sizeD d nm).1 (sizeD d nm).2) := by
  have KD := Lib.hid fun W (hx : Ext w W) => (show Calls Tryz.prog 15 #[.agg #[.slice A n c, .int .i64 d.room, .int .i64 d.fuse, .bool d.down, .int .i64 d.steps, .int .i64 d.read], .agg #[.int .i64 7, .string nm, .string ⟨#[]⟩, .slice none 0 0, .int .i64 0, .int .i64 0, .slice none 0 0]] W (DoPost W B0 A hs0 (d, [], (sizeD d nm).1, (sizeD d nm).2)) from
    do_any hI (⟨7, nm, ⟨#[]⟩, [], 0, 0, []⟩, (none, 0), (none, 0)) A n c B0 hs0 hmap W (hr.ext hx) (Nat.le_trans hB hx.size) hst (op_small W _ (rd_none W) (by decide : (0:Nat) ≤ 140737488351232) rfl rfl ⟨(by decide : (0:Int) ≤ 7), (by decide : (7:Int) ≤ 9)⟩ ⟨(by decide : (-9223372036854775808:Int) ≤ 0), (by decide : (0:Int) ≤ 9223372036854775807)⟩ rfl))
  unfold DoPost at KD
  dsimp only at KD
  obtain ⟨z, hz⟩ : ∃ z, z = (sizeD d nm).1 := ⟨_, rfl⟩
  obtain ⟨E, hE⟩ : ∃ E, E = (sizeD d nm).2 := ⟨_, rfl⟩
  rw [← hz, ← hE] at KD ⊢
  have hdk := dk_zero
  clear hz hE hr hst hI hmap hB
  go_enter Tryz.func20, Tryz.ntmps20
  go_upto_region 2 with (first
    | (with_reducible refine wpL_load_row rfl 28 (.tmp 2) rfl w.heap.size 28 _ 6 rfl (BlkA (BlkN rfl)) disk_wide (dk_size _ _ _ _ _ _ _ _) ?_)
    | (go_at_call 15; (with_reducible refine (KD.out _ (by repeat (first | with_reducible exact Below.refl _ _ | with_reducible assumption | with_reducible refine ExtD ?_ | with_reducible refine ExtDN ?_ | with_reducible refine ExtA ?_ | (with_reducible refine ExtR ?_ ?_; (first | omega | (dsimp only; omega) | (simp; done) | (simp; omega))) | (with_reducible refine ExtS ?_ ?_; (first | omega | (dsimp only; omega) | (simp; done) | (simp; omega))) | with_reducible refine Ext.tr ?_ (by with_reducible assumption)))).mono ?_); rintro e w1 ⟨A1, n1, c1, hs1, Ab, cb, rfl, hm1, hx1, ho1, hb1, -⟩; have b2 : Blk w1 w.heap.size 28 #[.slice A n c, .int .i64 d.room, .int .i64 d.fuse, .bool d.down, .int .i64 d.steps, .int .i64 d.read] := BlkE (BlkA (BlkN rfl)) hx1; have b4 : Blk w1 (w.heap.size + 1) 28 #[.slice none 0 0, .int .i64 0, .int .i64 0, .bool false, .int .i64 0, .int .i64 0] := BlkE (BlkN (by simp)) hx1)
    | (with_reducible refine wpL_store_row rfl 28 (.tmp 2) (.tmp 15) rfl w.heap.size 28 _ _ rfl rfl b2 ((dk_size _ _ _ _ _ _ _ _).trans (dk_size _ _ _ _ _ _ _ _).symm) (dk_one _ _ _ _ _ _ _ _) 6 disk_wide (dk_size _ _ _ _ _ _ _ _) ?_))
  have b3 : Blk (w1.setRow w.heap.size #[.slice A1 n1 c1, .int .i64 d.room, .int .i64 d.fuse, .bool d.down, .int .i64 d.steps, .int .i64 d.read]) w.heap.size 28 #[.slice A1 n1 c1, .int .i64 d.room, .int .i64 d.fuse, .bool d.down, .int .i64 d.steps, .int .i64 d.read] := Blk.setRow_ b2
  have b5 : Blk (w1.setRow w.heap.size #[.slice A1 n1 c1, .int .i64 d.room, .int .i64 d.fuse, .bool d.down, .int .i64 d.steps, .int .i64 d.read]) (w.heap.size + 1) 28 #[.slice none 0 0, .int .i64 0, .int .i64 0, .bool false, .int .i64 0, .int .i64 0] := BlkR (by omega) b4
  have hX1 : Ext w w1 := Ext.tr (by repeat (first | with_reducible exact Below.refl _ _ | with_reducible assumption | with_reducible refine ExtD ?_ | with_reducible refine ExtDN ?_ | with_reducible refine ExtA ?_ | (with_reducible refine ExtR ?_ ?_; (first | omega | (dsimp only; omega) | (simp; done) | (simp; omega))) | (with_reducible refine ExtS ?_ ?_; (first | omega | (dsimp only; omega) | (simp; done) | (simp; omega))) | with_reducible refine Ext.tr ?_ (by with_reducible assumption))) hx1
  have hX2 : Ext w (w1.setRow w.heap.size #[.slice A1 n1 c1, .int .i64 d.room, .int .i64 d.fuse, .bool d.down, .int .i64 d.steps, .int .i64 d.read]) := ExtR (Nat.le_refl _) hX1
  have ho2 : OwnFl (w1.setRow w.heap.size #[.slice A1 n1 c1, .int .i64 d.room, .int .i64 d.fuse, .bool d.down, .int .i64 d.steps, .int .i64 d.read]) B0 A1 n1 c1 hs1 := dofl_row b2 ho1
  generalize w1.setRow w.heap.size #[.slice A1 n1 c1, .int .i64 d.room, .int .i64 d.fuse, .bool d.down, .int .i64 d.steps, .int .i64 d.read] = w2 at *
  go_wp2_with (first
    | (with_reducible refine wpL_load_row rfl 28 (.tmp 2) rfl w.heap.size 28 _ 6 rfl b3 disk_wide (dk_size _ _ _ _ _ _ _ _) ?_)
    | (with_reducible refine wpL_store_row rfl 28 (.tmp 4) (.tmp 19) rfl (w.heap.size + 1) 28 _ _ rfl rfl b5 ((dk_size _ _ _ _ _ _ _ _).trans (dk_size _ _ _ _ _ _ _ _).symm) (dk_one _ _ _ _ _ _ _ _) 6 disk_wide (dk_size _ _ _ _ _ _ _ _) ?_))
  (try simp only [Exit.inBlock, Exit.then]); refine bodyPost_ret (v := .tuple #[.agg #[.slice A1 n1 c1, .int .i64 d.room, .int .i64 d.fuse, .bool d.down, .int .i64 d.steps, .int .i64 d.read], .int .i64 (z : Nat), .int .i64 (E : Nat)]) (res_row_tt rfl _ (w.heap.size + 1) 28 _ 6 _ _ rfl rfl rfl (Blk.setRow_ b5) disk_wide rfl) rfl ?_
  exact ⟨A1, n1, c1, hs1, rfl, hm1, ExtR (by omega) hX2, dofl_row b5 ho2, fun r hr => (hb1 r hr).imp id fun h => by simp at h; omega⟩
theorem manD_small (b : List UInt8) : (manD b).1.segs.length ≤ 256 := by
  rcases manD_or b with h | h
  · exact (man_ok (manD_inv (b := b) (m := (manD b).1) (by rw [← h])).1).len
  · rw [h]; decide
theorem ld_no {d : Dk} (h : (sizeD d nmM).2 = 51) : loadD d = (d, noMf, false, 0) := by unfold loadD; rw [if_pos h]
theorem ld_err {d : Dk} (h1 : (sizeD d nmM).2 ≠ 51) (h2 : (sizeD d nmM).2 ≠ 0) : loadD d = (d, noMf, false, (sizeD d nmM).2) := by unfold loadD; rw [if_neg h1, if_pos h2]
theorem ld_yes {d : Dk} (hI : DkInv d) (h : (sizeD d nmM).2 = 0) : ∃ (k : Nat) (f : Fil), atI (imgL d) nmM = (k : Nat) ∧ (imgL d)[k]? = some f.fv ∧ (sizeD d nmM).1 = f.data.length ∧ ∃ dL, loadD d = (dL, (manD f.data).1, decide ((manD f.data).2 = 0), (manD f.data).2) := by
  have ho : openE d nmM = 0 := by
    by_cases hc : openE d nmM = 0
    · exact hc
    · unfold sizeD at h
      rw [if_pos hc] at h
      exact h
  have hd : d.down = false := by
    cases hc : d.down with
    | false => rfl
    | true => unfold openE at ho; rw [hc] at ho; simp at ho
  rcases at_img hI.nd nmM with ⟨ha, _, _⟩ | ⟨k, f, ha, hi, hk, hn, hg, hm⟩
  · unfold openE at ho
    rw [hd, ha, rM] at ho
    simp at ho
  · obtain ⟨h1, d', h2, _, _⟩ := file_read hI hd hm (by rw [hn]; exact rM)
    rw [hn] at h1 h2
    refine ⟨k, f, hi, hk, by rw [h1], d', ?_⟩
    unfold loadD
    rw [h1, if_neg (by simp), if_neg (by simp)]
    dsimp only
    rw [h2]
    dsimp only
    by_cases h3 : (manD f.data).2 = 0
    · rw [if_neg (by simp [h3]), h3]; simp
    · rw [if_pos h3]
      rcases manD_or f.data with h4 | h4
      · exact absurd h4 h3
      · rw [h4]; rfl
end Go.Proofs.YtjajbbgebblalaaGreatDoor

namespace Go.Proofs.YtjajbbgebblalaaGreatDoor
open Go.RowKit
set_option linter.unusedVariables false
set_option linter.unusedSimpArgs false
open Go.Maps
theorem rd_keep {F : List Nat} {a b : World} {A : Option Addr} {n : Nat} {xs : List Value} (h : Turn F a b) (hr : Rd a A n xs) (hn : ∀ r, A.map (·.block) = some r → r ∉ F) : Rd b A n xs := by
  refine ⟨hr.1, fun h0 => ?_⟩
  obtain ⟨g, o, rfl, hc⟩ := hr.2 h0
  refine ⟨g, o, rfl, fun k v hk => ?_⟩
  have h1 := hc k v hk
  exact (World.cell?_of_block (h.block g (World.block_lt_of_cell? a _ h1) (hn g rfl))).trans h1
def svCells (AB : Option Addr) (L cB : Nat) : Array Value := #[.int .i64 0, .string nmT, .string ⟨#[]⟩, .slice none 0 0, .int .i64 0, .int .i64 0, .slice none 0 0, .int .i64 1, .string nmT, .string ⟨#[]⟩, .slice AB L cB, .int .i64 0, .int .i64 0, .slice none 0 0, .int .i64 2, .string nmT, .string ⟨#[]⟩, .slice none 0 0, .int .i64 0, .int .i64 0, .slice none 0 0, .int .i64 3, .string nmT, .string nmM, .slice none 0 0, .int .i64 0, .int .i64 0, .slice none 0 0]
theorem svCells_at {w : World} {q cB : Nat} {AB : Option Addr} {bs : List UInt8} (hb : Blk w q 44 (svCells AB bs.length cB)) (k : Nat) (hk : k < 4) : w.rangeAt q (k * 7) (opcells (svOp bs AB cB k)).toList := by
  intro j v hv
  have hj : j < 7 := by
    have := (List.getElem?_eq_some_iff.1 hv).1
    simpa [opcells] using this
  rw [hb.cell]
  match k, hk with
  | 0, _ => match j, hj with
    | 0, _ => exact hv
    | 1, _ => exact hv
    | 2, _ => exact hv
    | 3, _ => exact hv
    | 4, _ => exact hv
    | 5, _ => exact hv
    | 6, _ => exact hv
  | 1, _ => match j, hj with
    | 0, _ => exact hv
    | 1, _ => exact hv
    | 2, _ => exact hv
    | 3, _ => exact hv
    | 4, _ => exact hv
    | 5, _ => exact hv
    | 6, _ => exact hv
  | 2, _ => match j, hj with
    | 0, _ => exact hv
    | 1, _ => exact hv
    | 2, _ => exact hv
    | 3, _ => exact hv
    | 4, _ => exact hv
    | 5, _ => exact hv
    | 6, _ => exact hv
  | 3, _ => match j, hj with
    | 0, _ => exact hv
    | 1, _ => exact hv
    | 2, _ => exact hv
    | 3, _ => exact hv
    | 4, _ => exact hv
    | 5, _ => exact hv
    | 6, _ => exact hv
/-- The loop over the four calls: the document's disk goes on, nothing else. -/
def SvL (w V : World) (g b g9 : Nat) (d : Dk) (bs : List UInt8) (E : Nat) (hs : List HF) (c15 c81 : Value) (wr : World) : Prop :=
  ∃ (k : Nat) (A : Option Addr) (n c : Nat) (hv : List HV), c81 = .int .i64 (k : Nat) ∧ k ≤ 4 ∧ c15 = .int .i64 ((rsN d bs E k).2 : Nat) ∧ Turn [g9] V wr ∧ hv.map (·.1) = imgL (rsN d bs E k).1 ∧ OwnFl wr w.heap.size A n c hv ∧ (∀ r, hvB A hv r → r ∉ foot g b hs) ∧
    Blk wr g9 28 #[.slice A n c, .int .i64 (rsN d bs E k).1.room, .int .i64 (rsN d bs E k).1.fuse, .bool (rsN d bs E k).1.down, .int .i64 (rsN d bs E k).1.steps, .int .i64 (rsN d bs E k).1.read]
set_option maxRecDepth 100000 in
set_option maxHeartbeats 16000000 in
theorem manifestSaves_walk (room : Int) (A0 : Option Addr) (c0 n0 : Nat) (fs : List FV) (m : Mf) (AM : Option Addr) (cM : Nat) (fz : Int) (w : World) (hN : Nib w) (hfl : FlRd w A0 n0 fs) (hflb : ∀ f ∈ fs, f.data.length ≤ 140737488351232 ∧ IsI64 f.safe) (hn48 : n0 * 48 ≤ 140737488351232) (hr : SgRd w AM m.segs) (hw : MfWf m) (hfz : IsI64 fz) :
    Calls Tryz.prog 3 #[.int .i64 room, .slice A0 n0 c0, .agg (mfcells m AM cM), .int .i64 fz] w fun e w' => e = .returned (.bool true) ∧ Ext w w' := by
  have KH := Lib.hid fun W (hx : Ext w W) => mhead_any W (hN.ext hx)
  have hal := alloc_op
  have hdk := dk_zero
  have HN := Lib.hid hN
  have HR := Lib.hid hr
  have hlm := hw.2.1
  have hmi := hw.1.2.1
  have Hfz := Lib.hid hfz
  have KC := Lib.hid fun W (hx : Ext w W) => vcopy_any A0 n0 c0 fs W (hfl.ext hx) hn48 (fun f hf => by have := (hflb f hf).1; omega)
  have KM := Lib.hid fun W (hx : Ext w W) => rmount_any room A0 n0 c0 fs W (hfl.ext hx) hflb
  have KN := Lib.hid fun A1 c1 W (h : FlRd W A1 n0 fs) => mount_any room A1 n0 c1 fs W h hflb
  have hfn := hfl.len
  unfold GaveF at KC
  rw [hfn] at KC
  have HIv := Lib.hid fun d' (h : mountD room fs = (d', 0)) => inv_mountD h
  obtain ⟨r, hrr⟩ : ∃ r, r = mountD room fs := ⟨_, rfl⟩
  rw [← hrr] at KM KN HIv
  obtain ⟨d0, E⟩ := r
  unfold MtPost at KM
  unfold MountPost at KN
  dsimp only at KM KN
  clear hfl hflb hfn hrr hN hr hw hfz
  unfold mfcells
  by_cases hE : E = 0
  case neg =>
    simp only [if_neg hE] at KM KN
    have x1 : ((E : Int) != (E : Int)) = false := by simp
    have x2 : ((E : Int) == 0) = false := by simp; omega
    have x3 : ((E : Int) != 0) = true := by simp; omega
    have x4 : ¬ (E : Int) = 0 := by omega
    clear hE HIv
    go_enter Tryz.func3, Tryz.ntmps3
    go_wp2_with (first
      | (go_at_call 9; (with_reducible refine (KH.out _ (by repeat (first | with_reducible exact Below.refl _ _ | with_reducible assumption | with_reducible refine ExtD ?_ | with_reducible refine ExtDN ?_ | with_reducible refine ExtA ?_ | (with_reducible refine ExtR ?_ ?_; (first | omega | (dsimp only; omega) | (simp; done) | (simp; omega))) | (with_reducible refine ExtS ?_ ?_; (first | omega | (dsimp only; omega) | (simp; done) | (simp; omega))) | with_reducible refine Ext.tr ?_ (by with_reducible assumption)))).mono ?_); rintro e w1 ⟨rfl, hx1⟩; have hX1 : Ext w w1 := Ext.tr (by repeat (first | with_reducible exact Below.refl _ _ | with_reducible assumption | with_reducible refine ExtD ?_ | with_reducible refine ExtDN ?_ | with_reducible refine ExtA ?_ | (with_reducible refine ExtR ?_ ?_; (first | omega | (dsimp only; omega) | (simp; done) | (simp; omega))) | (with_reducible refine ExtS ?_ ?_; (first | omega | (dsimp only; omega) | (simp; done) | (simp; omega))) | with_reducible refine Ext.tr ?_ (by with_reducible assumption))) hx1)
      | (go_at_call 10; (with_reducible refine (KM.out _ hX1).mono ?_); rintro e w3 ⟨rfl, hx3⟩)
      | (go_at_call 12; (with_reducible refine (KC.out _ (by repeat (first | with_reducible exact Below.refl _ _ | with_reducible assumption | with_reducible refine ExtD ?_ | with_reducible refine ExtDN ?_ | with_reducible refine ExtA ?_ | (with_reducible refine ExtR ?_ ?_; (first | omega | (dsimp only; omega) | (simp; done) | (simp; omega))) | (with_reducible refine ExtS ?_ ?_; (first | omega | (dsimp only; omega) | (simp; done) | (simp; omega))) | with_reducible refine Ext.tr ?_ (by with_reducible assumption)))).mono ?_); rintro e w4 ⟨A1, c1, hv1, rfl, hm1, hx4, ho1⟩)
      | (go_at_call 11; (with_reducible refine (KN.out _ _ _ (hv_fl ho1 hm1)).mono ?_); rintro e w5 ⟨rfl, hx5⟩)
      | (change wpList _ _ _ (⟨none, .store _ (.tmp 9) _, _, _, _, _⟩ :: _) _ _; refine wpL_store_new rfl 28 (.tmp 9) (.tmp 32) rfl w3.heap.size 28 #[.slice none 0 0, .int .i64 0, .int .i64 0, .bool false, .int .i64 0, .int .i64 0] #[.slice none 0 0, .int .i64 0, .int .i64 0, .bool false, .int .i64 0, .int .i64 0] rfl rfl rfl rfl (dk_one _ _ _ _ _ _ _ _) 6 disk_wide rfl ?_))
    go_ret
    exact ⟨rfl, (by repeat (first | with_reducible exact Below.refl _ _ | with_reducible assumption | with_reducible refine ExtD ?_ | with_reducible refine ExtDN ?_ | with_reducible refine ExtA ?_ | (with_reducible refine ExtR ?_ ?_; (first | omega | (dsimp only; omega) | (simp; done) | (simp; omega))) | (with_reducible refine ExtS ?_ ?_; (first | omega | (dsimp only; omega) | (simp; done) | (simp; omega))) | with_reducible refine Ext.tr ?_ (by with_reducible assumption)))⟩
  subst hE
  simp only [if_true] at KM KN
  obtain ⟨hI0, hst0, -⟩ := HIv.out d0 rfl
  have Hst0 := Lib.hid hst0
  have HI0 := Lib.hid hI0
  have KE := Lib.hid fun W (hx : Ext w W) => mrenc_any m AM cM W (HR.out.ext hx) hlm trivial
  unfold MePost mfcells at KE
  obtain ⟨bs, hbs⟩ : ∃ bs, bs = (manE m).1 := ⟨_, rfl⟩
  obtain ⟨Ef, hEf⟩ : ∃ Ef, Ef = (manE m).2 := ⟨_, rfl⟩
  obtain ⟨L, hL⟩ : ∃ L, L = bs.length := ⟨_, rfl⟩
  rw [← hbs, ← hEf, ← hL] at KE
  have hlE := manE_len m
  rw [← hbs, ← hL] at hlE
  have Hbs := Lib.hid hbs
  have HEf := Lib.hid hEf
  have HL := Lib.hid hL
  clear HIv hst0 hI0 hbs hEf hL
  go_enter Tryz.func3, Tryz.ntmps3
  go_upto_region 7 with (first
    | (go_at_call 9; (with_reducible refine (KH.out _ (by repeat (first | with_reducible exact Below.refl _ _ | with_reducible assumption | with_reducible refine ExtD ?_ | with_reducible refine ExtDN ?_ | with_reducible refine ExtA ?_ | (with_reducible refine ExtR ?_ ?_; (first | omega | (dsimp only; omega) | (simp; done) | (simp; omega))) | (with_reducible refine ExtS ?_ ?_; (first | omega | (dsimp only; omega) | (simp; done) | (simp; omega))) | with_reducible refine Ext.tr ?_ (by with_reducible assumption)))).mono ?_); rintro e w1 ⟨rfl, hx1⟩; have hX1 : Ext w w1 := Ext.tr (by repeat (first | with_reducible exact Below.refl _ _ | with_reducible assumption | with_reducible refine ExtD ?_ | with_reducible refine ExtDN ?_ | with_reducible refine ExtA ?_ | (with_reducible refine ExtR ?_ ?_; (first | omega | (dsimp only; omega) | (simp; done) | (simp; omega))) | (with_reducible refine ExtS ?_ ?_; (first | omega | (dsimp only; omega) | (simp; done) | (simp; omega))) | with_reducible refine Ext.tr ?_ (by with_reducible assumption))) hx1; have b6 : Blk w1 w.heap.size 25 #[.int .i64 m.gen, .int .i64 m.next, .int .i64 m.floor, .int .i64 m.snap, .int .i64 m.snapSeq, .slice AM m.segs.length cM] := BlkE (BlkN rfl) hx1)
    | (go_at_call 10; (with_reducible refine (KM.out _ hX1).mono ?_); rintro e w3 ⟨A, n, c, hv, rfl, hm3, hx3, ho3⟩)
    | (go_at_call 12; (with_reducible refine (KC.out _ (by repeat (first | with_reducible exact Below.refl _ _ | with_reducible assumption | with_reducible refine ExtD ?_ | with_reducible refine ExtDN ?_ | with_reducible refine ExtA ?_ | (with_reducible refine ExtR ?_ ?_; (first | omega | (dsimp only; omega) | (simp; done) | (simp; omega))) | (with_reducible refine ExtS ?_ ?_; (first | omega | (dsimp only; omega) | (simp; done) | (simp; omega))) | with_reducible refine Ext.tr ?_ (by with_reducible assumption)))).mono ?_); rintro e w4 ⟨A1, c1, hv1, rfl, hm1, hx4, ho1⟩)
    | (go_at_call 11; (with_reducible refine (KN.out _ _ _ (hv_fl ho1 hm1)).mono ?_); rintro e w5 ⟨g, b, D, hs, rfl, hX5⟩; have hx5 := hX5.ext)
    | (change wpList _ _ _ (⟨none, .store _ (.tmp 9) _, _, _, _, _⟩ :: _) _ _; refine wpL_store_new rfl 28 (.tmp 9) (.tmp 32) rfl w3.heap.size 28 #[.slice none 0 0, .int .i64 0, .int .i64 0, .bool false, .int .i64 0, .int .i64 0] #[.slice A n c, .int .i64 d0.room, .int .i64 d0.fuse, .bool d0.down, .int .i64 d0.steps, .int .i64 d0.read] rfl rfl rfl rfl (dk_one _ _ _ _ _ _ _ _) 6 disk_wide rfl ?_))
  -- the disks behind the mounts, in one world
  have b9 : Blk w5 w3.heap.size 28 #[.slice A n c, .int .i64 d0.room, .int .i64 d0.fuse, .bool d0.down, .int .i64 d0.steps, .int .i64 d0.read] := BlkE (BlkE (BlkN rfl) hx4) hx5
  have hx35 : Ext w3 w5 := ((ExtA (Ext.rfl' w3)).tr hx4).tr hx5
  have hX3 : Ext w w3 := hX1.tr hx3
  have hX35 : Ext w w5 := hX3.tr hx35
  have b6' := BlkE (BlkE b6 hx3) hx35
  have hz1 := hX1.size
  have hz13 := hx3.size
  have hz34 : w3.heap.size < w4.heap.size := by have := hx4.size; simp at this; omega
  have hX6 : FsX w w5 g d0 b D hs := hX5.low (hX3.tr ((ExtA (Ext.rfl' w3)).tr hx4))
  have np9 : w3.heap.size ∉ foot g b hs := fun hc => by have h1 := hX5.base _ hc; omega
  have np6 : w.heap.size ∉ foot g b hs := fun hc => by have h1 := hX5.base _ hc; omega
  have hoff : ∀ r, hvB A hv r → r ∉ foot g b hs := fun r hr hc => by
    have h1 := hX5.base r hc
    have h2 := hv_lt ho3 hr
    omega
  have ho5 : OwnFl w5 w.heap.size A n c hv := (ho3.ext hx35).low (by omega)
  have hg9w : w.heap.size < w3.heap.size := by have := b6.lt; omega
  generalize w3.heap.size = g9 at *
  have Hm3 := Lib.hid hm3
  have hp6 := b6'.lt
  clear hX5 b6 ho3 ho1 hm1 hx5 hx4 hx35 hX3 hx3 hz13 hz34 KC KM KN KH hz1 hm3 hx1 hX1
  -- the fuse, in both
  have KF := Lib.hid fun W (h : FsX w W g d0 b D hs) => (show Calls Tryz.prog 14 #[.pointer (some ⟨g, 0, none⟩), .int .i64 fz] W (fun e w' => e = .returned (.tuple #[]) ∧ FsTo w W w' g b hs { d0 with fuse := max 0 fz }) from fuseK h fz)
  obtain ⟨d1, hd1⟩ : ∃ d1 : Dk, d1 = { d0 with fuse := max 0 fz } := ⟨_, rfl⟩
  have hI1 : DkInv d1 := by rw [hd1]; exact inv_fuse HI0.out fz Hfz.out.2
  have hst1 : d1.steps = 0 := by rw [hd1]; exact Hst0.out
  have HI1 := Lib.hid hI1
  have Hst1 := Lib.hid hst1
  have K9 := Lib.hid fun W (h : OwnFl W w.heap.size A n c hv) (hx : Ext w W) => (show Calls Tryz.prog 15 #[.agg #[.slice A n c, .int .i64 d0.room, .int .i64 d0.fuse, .bool d0.down, .int .i64 d0.steps, .int .i64 d0.read], .agg #[.int .i64 9, .string ⟨#[]⟩, .string ⟨#[]⟩, .slice none 0 0, .int .i64 fz, .int .i64 0, .slice none 0 0]] W (DoPost W w.heap.size A hv (d1, [], 0, 0)) from by
    rw [hd1]
    exact do_any HI0.out (⟨9, ⟨#[]⟩, ⟨#[]⟩, [], fz, 0, []⟩, (none, 0), (none, 0)) A n c w.heap.size hv Hm3.out W h hx.size (by rw [Hst0.out]; decide) (op_small W _ (rd_none W) (by decide : (0:Nat) ≤ 140737488351232) rfl rfl ⟨(by decide : (0:Int) ≤ 9), (by decide : (9:Int) ≤ 9)⟩ Hfz.out rfl))
  unfold DoPost at K9
  dsimp only at K9
  rw [← hd1] at KF
  clear hd1 hI1 hst1
  go_upto_region 10 with (first
    | (with_reducible refine wpL_load_row rfl 25 (.tmp 6) rfl _ 25 _ 6 rfl b6' mf_wide (mf_size' _ _ _ _ _ _ _ _) ?_)
    | (go_at_call 13; go_loud ((with_reducible refine (KE.out _ hX35).mono ?_); rintro e w6 ⟨AB, cB, rfl, hx6, hoB⟩; have hX66 := hX6.ext_ hx6; have b96 := BlkE b9 hx6; have b66 := BlkE b6' hx6))
    | (go_at_call 14; go_loud ((with_reducible refine (KF.out _ hX66).mono ?_); rintro e w7 ⟨rfl, D7, hs7, hX7, hT7, hF7⟩; have b97 := hT7.blk b96 np9; have b67 := hT7.blk b66 np6; have ho7 := (ho5.ext hx6).turn_ hT7 hoff))
    | (change wpList _ _ _ (⟨some 64, _, _, _, _, _⟩ :: _) _ _; refine wpL_load_row (o := ⟨some 64, _, _, _, _, _⟩) rfl 28 (.tmp 9) rfl g9 28 _ 6 rfl b97 disk_wide (dk_size _ _ _ _ _ _ _ _) ?_)
    | (go_at_call 15; go_loud ((with_reducible refine (K9.out _ ho7 hX7.ext).mono ?_); rintro e w8 ⟨A8, n8, c8, hv8, Ab, cb, rfl, hm8, hx8, ho8, hbb8, hb8⟩; have b98 := BlkE b97 hx8))
    | (change wpList _ _ _ (⟨none, .store _ (.tmp 9) _, _, _, _, _⟩ :: _) _ _; refine wpL_store_row rfl 28 (.tmp 9) (.tmp 68) rfl g9 28 _ _ rfl rfl b98 ((dk_size _ _ _ _ _ _ _ _).trans (dk_size _ _ _ _ _ _ _ _).symm) (dk_one _ _ _ _ _ _ _ _) 6 disk_wide (dk_size _ _ _ _ _ _ _ _) ?_))
  have np97 := FsTo.off (W := w) (w' := w7) hF7 np9 b96.lt
  have np67 := FsTo.off (W := w) (w' := w7) hF7 np6 b66.lt
  have hz5 := hX6.lt
  have hz56 := hx6.size
  have hz67 := hT7.size
  have hoff9 : ∀ r, hvB A8 hv8 r → r ∉ foot g b hs7 := fun r hr => by
    rcases hbb8 r hr with h1 | h1
    · exact FsTo.off (W := w) (w' := w7) hF7 (hoff r h1) (by have := hv_lt ho5 h1; omega)
    · intro hc
      have := hX7.lt r hc
      omega
  have hrB : Rd (w8.setRow g9 #[.slice A8 n8 c8, .int .i64 d1.room, .int .i64 d1.fuse, .bool d1.down, .int .i64 d1.steps, .int .i64 d1.read]) AB L (u8s bs) := rd_own (own_setRT (own_ext hx8 (hT7.own hoB fun r hr hc => by have h1 := (hoB.lt r hr).1; have h2 := hz5 r hc; omega)) b98 (by decide))
  have hX9 : FsX w (w8.setRow g9 #[.slice A8 n8 c8, .int .i64 d1.room, .int .i64 d1.fuse, .bool d1.down, .int .i64 d1.steps, .int .i64 d1.read]) g d1 b D7 hs7 := (hX7.ext_ hx8).keep turn_row (fun r hr => by rw [List.mem_singleton.1 hr]; exact np97) (fun r hr => by rw [List.mem_singleton.1 hr]; omega)
  have ho9 : OwnFl (w8.setRow g9 #[.slice A8 n8 c8, .int .i64 d1.room, .int .i64 d1.fuse, .bool d1.down, .int .i64 d1.steps, .int .i64 d1.read]) w.heap.size A8 n8 c8 hv8 := dofl_row b98 ho8
  have b99 : Blk (w8.setRow g9 #[.slice A8 n8 c8, .int .i64 d1.room, .int .i64 d1.fuse, .bool d1.down, .int .i64 d1.steps, .int .i64 d1.read]) g9 28 #[.slice A8 n8 c8, .int .i64 d1.room, .int .i64 d1.fuse, .bool d1.down, .int .i64 d1.steps, .int .i64 d1.read] := Blk.setRow_ b98
  have b69 : Blk (w8.setRow g9 #[.slice A8 n8 c8, .int .i64 d1.room, .int .i64 d1.fuse, .bool d1.down, .int .i64 d1.steps, .int .i64 d1.read]) w.heap.size 25 #[.int .i64 m.gen, .int .i64 m.next, .int .i64 m.floor, .int .i64 m.snap, .int .i64 m.snapSeq, .slice AM m.segs.length cM] := BlkR (by omega) (BlkE b67 hx8)
  have hAB : ∀ r, AB.map (·.block) = some r → r ∉ [g9] := fun r hr hc => by have h1 := own_new_blk hoB hr; have h2 := b9.lt; have h3 := List.mem_singleton.1 hc; omega
  generalize w8.setRow g9 #[.slice A8 n8 c8, .int .i64 d1.room, .int .i64 d1.fuse, .bool d1.down, .int .i64 d1.steps, .int .i64 d1.read] = W9 at *
  clear hx8 hT7 hF7 hX7 hX6 hX66 hoB hx6 b96 b66 b97 b67 b98 ho7 ho8 hbb8 hb8 KF K9 KE hz5 hz56 hz67 b9 b6' hX35 ho5 hoff np9 np6 Hm3 HI0 Hst0 hp6
  go_wp2_with fail
  obtain ⟨V, hV⟩ : ∃ V, V = W9.alloc (.cells (svCells AB L cB) 44) := ⟨_, rfl⟩
  have hxV : Ext W9 V := by rw [hV]; exact ExtA (Ext.rfl' W9)
  have bq : Blk V W9.heap.size 44 (svCells AB L cB) := by rw [hV]; exact BlkN rfl
  have hV2 : V = W9.alloc (.cells #[.int .i64 0, .string ⟨#[109, 97, 110, 105, 102, 101, 115, 116, 46, 116, 109, 112]⟩, .string ⟨#[]⟩, .slice none 0 0, .int .i64 0, .int .i64 0, .slice none 0 0, .int .i64 1, .string ⟨#[109, 97, 110, 105, 102, 101, 115, 116, 46, 116, 109, 112]⟩, .string ⟨#[]⟩, .slice AB L cB, .int .i64 0, .int .i64 0, .slice none 0 0, .int .i64 2, .string ⟨#[109, 97, 110, 105, 102, 101, 115, 116, 46, 116, 109, 112]⟩, .string ⟨#[]⟩, .slice none 0 0, .int .i64 0, .int .i64 0, .slice none 0 0, .int .i64 3, .string ⟨#[109, 97, 110, 105, 102, 101, 115, 116, 46, 116, 109, 112]⟩, .string ⟨#[109, 97, 110, 105, 102, 101, 115, 116]⟩, .slice none 0 0, .int .i64 0, .int .i64 0, .slice none 0 0] 44) := hV
  rw [← hV2]
  have hX10 := hX9.ext_ hxV
  have ho10 := ho9.ext hxV
  have b910 := BlkE b99 hxV
  have b610 := BlkE b69 hxV
  have hrV := hrB.ext hxV
  have hgq : g9 ≠ W9.heap.size := by have := b99.lt; omega
  have hqf : W9.heap.size ∉ foot g b hs7 := fun hc => by have := hX9.lt _ hc; omega
  have hg9b : w.heap.size ≤ g9 := by omega
  generalize W9.heap.size = q at *
  have HX10 := Lib.hid hX10
  have HRV := Lib.hid hrV
  have HV := Lib.hid bq
  have HAB := Lib.hid hAB
  have Hoff := Lib.hid hoff9
  have B6 := Lib.hid b610
  have Np9 := Lib.hid np97
  have HSO : Hid (∀ w' k, k < 4 → Blk w' q 44 (svCells AB L cB) → w'.rangeAt q (k * 7) (opcells (svOp bs AB cB k)).toList) := Lib.hid fun w' k hk h => svCells_at (by rw [← HL.out]; exact h) k hk
  clear hV hV2 hX9 hX10 hxV ho9 b99 b69 b610 hrB hrV bq hoff9 W9 np97 hAB
  go_loopw [15, 81] (fun c15 c81 wr => SvL w V g b g9 d1 bs Ef hs7 c15 c81 wr) (fun _ c81 _ => 4 - (intOf c81).toNat)
  case atStart => exact ⟨0, A8, n8, c8, hv8, rfl, by omega, rfl, Turn.refl _ _, hm8, ho10, Hoff.out, b910⟩
  case round =>
    clear ho10 b910 hm8
    obtain ⟨k, A, n, c, hv, rfl, hk, rfl, ht, hm, hown, hoff, b9r⟩ := hrel
    have hstk := rsN_steps d1 bs Ef k
    have hIk := rsN_inv HI1.out bs Ef k
    have hsucc : rsN d1 bs Ef (k + 1) = (if (rsN d1 bs Ef k).2 ≠ 0 then rsN d1 bs Ef k else stpN (rsN d1 bs Ef k).1 bs k) := rfl
    have hR4 : k = 4 → rsN d1 bs Ef k = saveD d1 m := fun h => by rw [h, Hbs.out, HEf.out]; exact rs_save d1 m
    have Hm := Lib.hid hm
    have Hown := Lib.hid hown
    have Hof := Lib.hid hoff
    have Ht := Lib.hid ht
    have hzr := ht.size
    clear hm hown hoff
    obtain ⟨⟨d, E⟩, hdE⟩ : ∃ x, x = rsN d1 bs Ef k := ⟨_, rfl⟩
    rw [← hdE] at hstk hIk hsucc hR4 Hm b9r ⊢
    dsimp only at hstk hIk hsucc Hm b9r ⊢
    have HsE := Lib.hid hdE
    have Hsu := Lib.hid hsucc
    have HIk := Lib.hid hIk
    have HR4 := Lib.hid hR4
    clear hdE hsucc hIk hR4
    by_cases hlt : k < 4
    · by_cases hE : E = 0
      · subst hE
        have hsd : d.steps ≤ 4611686018427387904 := by have := Hst1.out; omega
        have KD := Lib.hid fun W (hx : Ext wr W) => do_any HIk.out (svOp bs AB cB k) A n c w.heap.size hv Hm.out W (Hown.out.ext hx) (by have := HX10.out.ext.size; have := hx.size; omega) hsd (svOp_ok W bs AB cB k (by rw [← HL.out]; exact (rd_keep Ht.out HRV.out HAB.out).ext hx) (by rw [← HL.out]; omega))
        rw [svOp_call] at KD
        unfold DoPost at KD
        have hs1 : rsN d1 bs Ef (k + 1) = stpN d bs k := by rw [Hsu.out]; exact if_neg (fun h => h rfl)
        obtain ⟨⟨d2, E2⟩, hd2⟩ : ∃ x, x = stpN d bs k := ⟨_, rfl⟩
        rw [← hd2] at KD hs1
        dsimp only at KD
        have Hs1 := Lib.hid hs1
        have hxr : Ext w wr := Ht.out.ext HX10.out.ext (fun r hr => by rw [List.mem_singleton.1 hr]; exact hg9b)
        have bqr : Blk wr q 44 (svCells AB L cB) := Ht.out.blk HV.out (fun hc => hgq (List.mem_singleton.1 hc).symm)
        obtain ⟨⟨od, ou, ol⟩, oi⟩ := op_wide
        have orow : od.isRow = true := by revert ol; cases od <;> simp [TypeDesc.isRow]
        have HSO2 : Hid (∀ w', Blk w' q 44 (svCells AB L cB) → w'.rangeAt q (k * 7) (opcells (svOp bs AB cB k)).toList) := Lib.hid fun w' h => HSO.out w' k hlt h
        have hlt4 : (k : Int) < 4 := by omega
        clear hs1 hd2 hstk hsd
        go_upto_region 16 with fail
        -- REGION16
        refine wp_region_held_drew (S := fun w' => Ext w w' ∧ Blk w' q 44 (svCells AB L cB)) (by kernel_rfl) ⟨ExtD hxr, BlkD bqr⟩ (fun hS => ?_)
        refine takeD (some 88) (i := 1) (oi := ⟨some 88, _, _, _, _, _⟩) (v := .slice (some ⟨q, 0, none⟩) 4 4) rfl rfl (by kernel_rfl) (by kernel_rfl) (by kernel_rfl) (fun _ _ _ h => h) (Or.inl ⟨by kernel_rfl, fun w hw => by go_simp⟩) hS ?_; (try simp only [Act.put, List.setIfInBounds_toArray, List.set_cons_zero, List.set_cons_succ])
        refine takeD (some 89) (i := 2) (oi := ⟨some 89, _, _, _, _, _⟩) (v := .int .i64 (k : Nat)) rfl rfl (by kernel_rfl) (by kernel_rfl) (by kernel_rfl) (fun _ _ _ h => h) (Or.inl ⟨by kernel_rfl, fun w hw => by go_simp⟩) hS ?_; (try simp only [Act.put, List.setIfInBounds_toArray, List.set_cons_zero, List.set_cons_succ])
        refine takeD (some 90) (i := 3) (oi := ⟨some 90, _, _, _, _, _⟩) (v := .pointer (some ⟨q, k * 7, none⟩)) rfl rfl (by kernel_rfl) (by kernel_rfl) (by kernel_rfl) (fun _ _ _ h => h) (Or.inl ⟨by kernel_rfl, fun w hw => by go_simp⟩) hS ?_; (try simp only [Act.put, List.setIfInBounds_toArray, List.set_cons_zero, List.set_cons_succ])
        refine takeD (some 91) (i := 4) (oi := ⟨some 91, _, _, _, _, _⟩) (v := .agg (opcells (svOp bs AB cB k))) rfl rfl (by kernel_rfl) (by kernel_rfl) (by kernel_rfl) (fun _ _ _ h => h) (yieldsIf_load_mid (by kernel_rfl) 44 (.tmp 90) rfl q (k * 7) rfl (opcells (svOp bs AB cB k)).toList od (fun w' hw => HSO2.out w' hw.2) ou orow (by rw [Array.length_toList, opcells_size]; exact oi)) hS ?_; (try simp only [Act.put, List.setIfInBounds_toArray, List.set_cons_zero, List.set_cons_succ])
        refine wpAnyH_ready (rs := [0]) (by kernel_rfl) (by simp) (AllReadyH.cons (o := ⟨some 87, _, _, _, _, _⟩) rfl (fun K hK => ?_) (AllReadyH.nil))
        refine step_load_row rfl (some 87) rfl 28 (.tmp 9) rfl g9 28 #[.slice A n c, .int .i64 d.room, .int .i64 d.fuse, .bool d.down, .int .i64 d.steps, .int .i64 d.read] 6 rfl (BlkD b9r) disk_wide rfl ?_; refine hK.out _ _ hS ?_; intro hS; clear hK; (try simp only [Act.put, List.setIfInBounds_toArray, List.set_cons_zero, List.set_cons_succ])
        refine wpAnyH_ready (rs := [5]) (by kernel_rfl) (by simp) (AllReadyH.cons (o := ⟨some 92, _, _, _, _, _⟩) rfl (fun K hK => ?_) (AllReadyH.nil))
        refine step_callG rfl (some 92) rfl 15 _ Tryz.func15 (by kernel_rfl) (by kernel_rfl) _ _ rfl #[.agg #[.slice A n c, .int .i64 d.room, .int .i64 d.fuse, .bool d.down, .int .i64 d.steps, .int .i64 d.read], .agg (opcells (svOp bs AB cB k))] (by first | rfl | simp [Act.eval, Act.put]) _ (KD.out _ (ExtD (Ext.rfl' wr))) ?_; rintro e W1 ⟨A9, n9, c9, hv9, Ab, cb, rfl, hm9, hx9, ho9, hb9, -⟩; refine ⟨_, rfl, hK.out _ _ ⟨Ext.tr hS.1 hx9, BlkE hS.2 hx9⟩ ?_⟩; intro hS; clear hK; (try simp only [Act.put, List.setIfInBounds_toArray, List.set_cons_zero, List.set_cons_succ])
        refine takeD (some 86) (i := 6) (oi := ⟨some 86, _, _, _, _, _⟩) (v := .tuple #[.agg #[.slice A9 n9 c9, .int .i64 d2.room, .int .i64 d2.fuse, .bool d2.down, .int .i64 d2.steps, .int .i64 d2.read], .slice Ab 0 cb, .int .i64 0, .int .i64 (E2 : Nat)]) rfl rfl (by kernel_rfl) (by kernel_rfl) (by kernel_rfl) (fun _ _ _ h => h) (Or.inl ⟨by kernel_rfl, fun w hw => by go_simp⟩) hS ?_; (try simp only [Act.put, List.setIfInBounds_toArray, List.set_cons_zero, List.set_cons_succ])
        refine takeD (some 93) (i := 7) (oi := ⟨some 93, _, _, _, _, _⟩) (v := .agg #[.slice A9 n9 c9, .int .i64 d2.room, .int .i64 d2.fuse, .bool d2.down, .int .i64 d2.steps, .int .i64 d2.read]) rfl rfl (by kernel_rfl) (by kernel_rfl) (by kernel_rfl) (fun _ _ _ h => h) (Or.inl ⟨by kernel_rfl, fun w hw => by go_simp⟩) hS ?_; (try simp only [Act.put, List.setIfInBounds_toArray, List.set_cons_zero, List.set_cons_succ])
        refine takeD (some 94) (i := 8) (oi := ⟨some 94, _, _, _, _, _⟩) (v := .slice Ab 0 cb) rfl rfl (by kernel_rfl) (by kernel_rfl) (by kernel_rfl) (fun _ _ _ h => h) (Or.inl ⟨by kernel_rfl, fun w hw => by go_simp⟩) hS ?_; (try simp only [Act.put, List.setIfInBounds_toArray, List.set_cons_zero, List.set_cons_succ])
        refine takeD (some 95) (i := 9) (oi := ⟨some 95, _, _, _, _, _⟩) (v := .int .i64 0) rfl rfl (by kernel_rfl) (by kernel_rfl) (by kernel_rfl) (fun _ _ _ h => h) (Or.inl ⟨by kernel_rfl, fun w hw => by go_simp⟩) hS ?_; (try simp only [Act.put, List.setIfInBounds_toArray, List.set_cons_zero, List.set_cons_succ])
        refine takeD (some 96) (i := 10) (oi := ⟨some 96, _, _, _, _, _⟩) (v := .int .i64 (E2 : Nat)) rfl rfl (by kernel_rfl) (by kernel_rfl) (by kernel_rfl) (fun _ _ _ h => h) (Or.inl ⟨by kernel_rfl, fun w hw => by go_simp⟩) hS ?_; (try simp only [Act.put, List.setIfInBounds_toArray, List.set_cons_zero, List.set_cons_succ])
        have b99r := BlkE (BlkD b9r) hx9
        refine wpAnyH_ready (rs := [11]) (by kernel_rfl) (by simp) (AllReadyH.cons (o := ⟨none, _, _, _, _, _⟩) rfl (fun K hK => ?_) (AllReadyH.nil))
        refine step_store_row rfl none rfl 28 (.tmp 9) (.tmp 93) rfl g9 28 _ #[.slice A9 n9 c9, .int .i64 d2.room, .int .i64 d2.fuse, .bool d2.down, .int .i64 d2.steps, .int .i64 d2.read] rfl rfl b99r rfl (dk_one _ _ _ _ _ _ _ _) 6 disk_wide rfl ?_; refine hK.out _ _ ⟨ExtR hg9b hS.1, BlkR (Ne.symm hgq) hS.2⟩ ?_; intro hS; clear hK; (try simp only [Act.put, List.setIfInBounds_toArray, List.set_cons_zero, List.set_cons_succ])
        refine takeD (some 15) (i := 12) (oi := ⟨some 15, _, _, _, _, _⟩) (v := .int .i64 (E2 : Nat)) rfl rfl (by kernel_rfl) (by kernel_rfl) (by kernel_rfl) (fun _ _ _ h => h) (Or.inl ⟨by kernel_rfl, fun w hw => by go_simp⟩) hS ?_; (try simp only [Act.put, List.setIfInBounds_toArray, List.set_cons_zero, List.set_cons_succ])
        refine wpAnyH_done (by kernel_rfl) ?_ _
        -- END16
        go_wp2_with fail
        go_roundw
        case rel =>
          refine ⟨k + 1, A9, n9, c9, hv9, by go_num, by omega, by rw [Hs1.out], (Ht.out.tr (((ExtD (Ext.rfl' wr)).tr hx9).turn _)).tr turn_row, by rw [Hs1.out]; exact hm9, dofl_row b99r ho9, fun r hr => ?_, by rw [Hs1.out]; exact Blk.setRow_ b99r⟩
          rcases hb9 r hr with h1 | h1
          · exact Hof.out r h1
          · intro hc
            have := HX10.out.lt r hc
            simp at h1
            omega
        case measure => simp [intOf]; omega
      · have x1 : ((E : Int) == 0) = false := by simp; omega
        have x2 : ¬ (E : Int) = 0 := by omega
        have hs1 : rsN d1 bs Ef (k + 1) = (d, E) := by rw [Hsu.out, if_pos hE]
        have Hs1 := Lib.hid hs1
        have hlt4 : (k : Int) < 4 := by omega
        clear hs1 hE
        go_wp2_with fail
        go_roundw
        case rel => exact ⟨k + 1, A, n, c, hv, by go_num, by omega, by rw [Hs1.out], Ht.out, by rw [Hs1.out]; exact Hm.out, Hown.out, Hof.out, by rw [Hs1.out]; exact b9r⟩
        case measure => simp [intOf]; omega
    · have hk4 : k = 4 := by omega
      subst hk4
      have hsv := HR4.out rfl
      have hlt4 : decide (((4 : Nat) : Int) < 4) = false := by decide
      have hxr : Ext w wr := Ht.out.ext HX10.out.ext (fun r hr => by rw [List.mem_singleton.1 hr]; exact hg9b)
      have hXr : FsX w wr g d1 b D7 hs7 := HX10.out.keep Ht.out (fun r hr => by rw [List.mem_singleton.1 hr]; exact Np9.out) (fun r hr => by rw [List.mem_singleton.1 hr]; exact hg9b)
      have b6r := Ht.out.blk B6.out (fun hc => by have := List.mem_singleton.1 hc; omega)
      have KCo := Lib.hid fun W (hx : Ext w W) => mcopy_any m AM cM W (HR.out.ext hx) (by omega)
      have KSv := Lib.hid fun A c W (h : FsX w W g d1 b D7 hs7) (hs1 : SgRd W A m.segs) => save_any m A c w W g b d1 D7 hs7 h HI1.out (by rw [Hst1.out]; decide) (HN.out.ext h.ext) hs1 hlm hmi
      rw [← hsv] at KSv
      dsimp only at KSv
      unfold McPost mfcells at KCo
      unfold mfcells at KSv
      have Hxr := Lib.hid hxr
      have hg9f := Np9.out
      have hsd : d.steps ≤ 4611686018427387904 := by have := Hst1.out; omega
      have Hsv := Lib.hid hsv
      clear hsv HR4 Hsu HsE Ht HX10 HV HRV HSO HAB B6 Np9 Hoff hxr hqf hgq Hst1 HI1 hzr hstk
      go_upto_region 19 with (first
        | (with_reducible refine wpL_load_row rfl 25 (.tmp 6) rfl _ 25 _ 6 rfl b6r mf_wide (mf_size' _ _ _ _ _ _ _ _) ?_)
        | (go_at_call 17; go_loud ((with_reducible refine (KCo.out _ Hxr.out).mono ?_); rintro e w11 ⟨A11, c11, rfl, hx11, ho11⟩; have hX11 := hXr.ext_ hx11))
        | (go_at_call 16; go_loud ((with_reducible refine (KSv.out _ _ _ hX11 (OwnSg.rd ho11)).mono ?_); rintro e w12 ⟨rfl, D12, hs12, hX12, hT12, hF12⟩)))
      have b912 := hT12.blk (BlkE b9r hx11) hg9f
      have ho12 := (Hown.out.ext hx11).turn_ hT12 Hof.out
      have hg9n := FsTo.off (W := w) (w' := w12) hF12 hg9f (BlkE b9r hx11).lt
      have hofn : ∀ r, hvB A hv r → r ∉ foot g b hs12 := fun r hr => FsTo.off (W := w) (w' := w12) hF12 (Hof.out r hr) (hv_lt (Hown.out.ext hx11) hr)
      have hnl : (imgL d).length = n := by rw [← Hm.out, List.length_map]; exact ho12.len
      have hn7 : n ≤ 700 := by have := HIk.out.cnt; rw [← hnl, imgL_len]; exact this
      have hsm : ∀ f ∈ imgL d, f.data.length ≤ maxLen := fun f hf => by have := (img_small HIk.out f hf).1; simp only [maxLen]; omega
      have KI := Lib.hid fun W (hx : Ext w12 W) => imageK (hX12.ext_ hx) HIk.out
      unfold GaveF at KI
      rw [hnl] at KI
      have hfl12 := hv_fl ho12 Hm.out
      have KS := Lib.hid fun A8 c8 W (hx : Ext w12 W) (h : FlRd W A8 n (imgL d)) => fsame_yes A8 A n c8 c (imgL d) W h (hfl12.ext hx) (by simp only [maxLen]; omega) hsm
      have q9 := Lib.hid fun W (hx : Ext w12 W) => (BlkE b912 hx).cell 0
      have x1 : ((E : Int) != E) = false := by simp
      have HX12 := Lib.hid hX12
      have HO12 := Lib.hid ho12
      have B912 := Lib.hid b912
      have Hg9n := Lib.hid hg9n
      have Hofn := Lib.hid hofn
      have Hsm := Lib.hid hsm
      clear hX12 hT12 hF12 ho12 hfl12 b912 hg9n hofn hnl hsm hX11 hx11 ho11 hXr b6r b9r hg9f Hown Hof hlt4 KCo KSv
      go_region_held3 (fun w' => w'.cell? ⟨g9, 0, none⟩ = some (.slice A n c)) (exact q9.out _ (by repeat (first | with_reducible exact Below.refl _ _ | with_reducible assumption | with_reducible refine ExtD ?_ | with_reducible refine ExtDN ?_ | with_reducible refine ExtA ?_ | (with_reducible refine ExtR ?_ ?_; (first | omega | (dsimp only; omega) | (simp; done) | (simp; omega))) | (with_reducible refine ExtS ?_ ?_; (first | omega | (dsimp only; omega) | (simp; done) | (simp; omega))) | with_reducible refine Ext.tr ?_ (by with_reducible assumption))))
        (first
          | (go_at_call 19; go_loud ((with_reducible refine (KI.out _ (by repeat (first | with_reducible exact Below.refl _ _ | with_reducible assumption | with_reducible refine ExtD ?_ | with_reducible refine ExtDN ?_ | with_reducible refine ExtA ?_ | (with_reducible refine ExtR ?_ ?_; (first | omega | (dsimp only; omega) | (simp; done) | (simp; omega))) | (with_reducible refine ExtS ?_ ?_; (first | omega | (dsimp only; omega) | (simp; done) | (simp; omega))) | with_reducible refine Ext.tr ?_ (by with_reducible assumption)))).mono ?_); rintro e w13 ⟨A8, c8, hv8, rfl, hm8, hx13, ho13⟩))
          | (go_at_call 18; go_loud ((with_reducible refine (KS.out _ _ _ (by repeat (first | with_reducible exact Below.refl _ _ | with_reducible assumption | with_reducible refine ExtD ?_ | with_reducible refine ExtDN ?_ | with_reducible refine ExtA ?_ | (with_reducible refine ExtR ?_ ?_; (first | omega | (dsimp only; omega) | (simp; done) | (simp; omega))) | (with_reducible refine ExtS ?_ ?_; (first | omega | (dsimp only; omega) | (simp; done) | (simp; omega))) | with_reducible refine Ext.tr ?_ (by with_reducible assumption))) (hv_fl ho13 hm8)).mono ?_); rintro e w14 ⟨rfl, hx14⟩)))
      have hx2 : Ext w12 w14 := (by repeat (first | with_reducible exact Below.refl _ _ | with_reducible assumption | with_reducible refine ExtD ?_ | with_reducible refine ExtDN ?_ | with_reducible refine ExtA ?_ | (with_reducible refine ExtR ?_ ?_; (first | omega | (dsimp only; omega) | (simp; done) | (simp; omega))) | (with_reducible refine ExtS ?_ ?_; (first | omega | (dsimp only; omega) | (simp; done) | (simp; omega))) | with_reducible refine Ext.tr ?_ (by with_reducible assumption)))
      have hX14 := HX12.out.ext_ hx2
      have ho14 := HO12.out.ext hx2
      have b914 := BlkE B912.out hx2
      clear hx2 hx13 hx14 ho13 hm8 KI KS q9 x1
      -- the getter's size, and the load
      have KSz := Lib.hid fun W (hx : Ext w14 W) => rsize_any HIk.out nmM A n c w.heap.size hv Hm.out W (ho14.ext hx) (by have := hX14.ext.size; have := hx.size; omega) hsd
      unfold SzPost at KSz
      have KL := Lib.hid fun W (h : FsX w W g d b D12 hs12) => load_any w W g b d D12 hs12 h HIk.out HN.out
      unfold LdPost at KL
      obtain ⟨⟨z, e0⟩, hse⟩ : ∃ x, x = sizeD d nmM := ⟨_, rfl⟩
      obtain ⟨⟨dL, mL, bL, eL⟩, hld⟩ : ∃ x, x = loadD d := ⟨_, rfl⟩
      rw [← hse] at KSz
      rw [← hld] at KL
      dsimp only at KSz KL
      unfold mfcells at KL
      unfold nmM at KSz
      have Hse := Lib.hid hse
      have Hld := Lib.hid hld
      clear hse hld
      go_upto_region 23 with (first
        | (change wpList _ _ _ (⟨some 114, _, _, _, _, _⟩ :: _) _ _; refine wpL_load_row (o := ⟨some 114, _, _, _, _, _⟩) rfl 28 (.tmp 9) rfl g9 28 _ 6 rfl b914 disk_wide (dk_size _ _ _ _ _ _ _ _) ?_)
        | (go_at_call 20; go_loud ((with_reducible refine (KSz.out _ (by repeat (first | with_reducible exact Below.refl _ _ | with_reducible assumption | with_reducible refine ExtD ?_ | with_reducible refine ExtDN ?_ | with_reducible refine ExtA ?_ | (with_reducible refine ExtR ?_ ?_; (first | omega | (dsimp only; omega) | (simp; done) | (simp; omega))) | (with_reducible refine ExtS ?_ ?_; (first | omega | (dsimp only; omega) | (simp; done) | (simp; omega))) | with_reducible refine Ext.tr ?_ (by with_reducible assumption)))).mono ?_); rintro e w15 ⟨A15, n15, c15, hv15, rfl, hm15, hx15, ho15, -⟩))
        | (change wpList _ _ _ (⟨none, .store _ (.tmp 19) _, _, _, _, _⟩ :: _) _ _; refine wpL_store_new rfl 28 (.tmp 19) (.tmp 116) rfl w15.heap.size 28 #[.slice none 0 0, .int .i64 0, .int .i64 0, .bool false, .int .i64 0, .int .i64 0] #[.slice A15 n15 c15, .int .i64 d.room, .int .i64 d.fuse, .bool d.down, .int .i64 d.steps, .int .i64 d.read] rfl rfl rfl rfl (dk_one _ _ _ _ _ _ _ _) 6 disk_wide rfl ?_; have hX16 := hX14.ext_ ((hx15).tr (ExtA (o := .cells #[.slice A15 n15 c15, .int .i64 d.room, .int .i64 d.fuse, .bool d.down, .int .i64 d.steps, .int .i64 d.read] 28) (Ext.rfl' w15))))
        | (go_at_call 21; go_loud ((with_reducible refine (KL.out _ hX16).mono ?_); rintro e w17 ⟨A17, c17, rfl, ⟨D17, hs17, hX17, hT17, hF17⟩, ho17⟩))
        | (with_reducible refine wpL_store_row rfl 25 (.tmp 21) (.tmp 122) rfl _ 25 _ _ rfl rfl (BlkN rfl) ((mf_size' _ _ _ _ _ _ _ _).trans (mf_size' _ _ _ _ _ _ _ _).symm) (mf_one' _ _ _ _ _ _ _ _) 6 mf_wide (mf_size' _ _ _ _ _ _ _ _) ?_))
      have b915 := BlkE b914 hx15
      have b21 : Blk ((w17.alloc (.cells #[.int .i64 0, .int .i64 0, .int .i64 0, .int .i64 0, .int .i64 0, .slice none 0 0] 25)).setRow w17.heap.size #[.int .i64 mL.gen, .int .i64 mL.next, .int .i64 mL.floor, .int .i64 mL.snap, .int .i64 mL.snapSeq, .slice A17 mL.segs.length c17]) w17.heap.size 25 #[.int .i64 mL.gen, .int .i64 mL.next, .int .i64 mL.floor, .int .i64 mL.snap, .int .i64 mL.snapSeq, .slice A17 mL.segs.length c17] := Blk.setRow_ (BlkN rfl)
      have hx17 : Ext w17 ((w17.alloc (.cells #[.int .i64 0, .int .i64 0, .int .i64 0, .int .i64 0, .int .i64 0, .slice none 0 0] 25)).setRow w17.heap.size #[.int .i64 mL.gen, .int .i64 mL.next, .int .i64 mL.floor, .int .i64 mL.snap, .int .i64 mL.snapSeq, .slice A17 mL.segs.length c17]) := ExtR (Nat.le_refl _) (ExtA (Ext.rfl' w17))
      have hX18 := hX17.ext.tr hx17
      have s17 := (OwnSg.rd ho17).ext hx17
      have b918 := BlkE (hT17.blk (BlkA (o := .cells #[.slice A15 n15 c15, .int .i64 d.room, .int .i64 d.fuse, .bool d.down, .int .i64 d.steps, .int .i64 d.read] 28) b915) Hg9n.out) hx17
      have ho18 := (((ho14.ext hx15).ext (ExtA (o := .cells #[.slice A15 n15 c15, .int .i64 d.room, .int .i64 d.fuse, .bool d.down, .int .i64 d.steps, .int .i64 d.read] 28) (Ext.rfl' w15))).turn_ hT17 Hofn.out).ext hx17
      generalize (w17.alloc (.cells #[.int .i64 0, .int .i64 0, .int .i64 0, .int .i64 0, .int .i64 0, .slice none 0 0] 25)).setRow w17.heap.size #[.int .i64 mL.gen, .int .i64 mL.next, .int .i64 mL.floor, .int .i64 mL.snap, .int .i64 mL.snapSeq, .slice A17 mL.segs.length c17] = W18 at *
      generalize w17.heap.size = p21 at *
      have HX18 := Lib.hid hX18
      have S17 := Lib.hid s17
      clear ho15 hx15 b915 hx17 hX18 s17 ho14 b914 hX17 hT17 hF17 ho17 hX14 hX16 HX12 HO12 B912 Hg9n Hofn KSz KL
      by_cases h51 : e0 = 51
      · subst h51
        have hl := ld_no (d := d) (by rw [← Hse.out])
        rw [← Hld.out] at hl
        obtain ⟨-, rfl, rfl, rfl⟩ : dL = d ∧ mL = noMf ∧ bL = false ∧ eL = 0 := by simpa using hl
        have Ks := Lib.hid (show Calls Tryz.prog 22 #[.agg #[.int .i64 0, .int .i64 0, .int .i64 0, .int .i64 0, .int .i64 0, .slice A17 0 c17], .agg #[.int .i64 0, .int .i64 0, .int .i64 0, .int .i64 0, .int .i64 0, .slice none 0 0]] W18 (fun e w' => e = .returned (.bool true) ∧ Ext W18 w') from msame_any noMf A17 none c17 0 W18 S17.out (OwnSg.rd (w := W18) (base := 0) (c := 0) (World.ownsRow_nil _ _ _ _)) (by decide))
        have f0 : W18.cell? ⟨p21, 0, none⟩ = some (.int .i64 0) := b21.cell 0
        have f1 : W18.cell? ⟨p21, 1, none⟩ = some (.int .i64 0) := b21.cell 1
        have f2 : W18.cell? ⟨p21, 2, none⟩ = some (.int .i64 0) := b21.cell 2
        have f3 : W18.cell? ⟨p21, 3, none⟩ = some (.int .i64 0) := b21.cell 3
        have f4 : W18.cell? ⟨p21, 4, none⟩ = some (.int .i64 0) := b21.cell 4
        have f5 : W18.cell? ⟨p21, 5, none⟩ = some (.slice A17 0 c17) := b21.cell 5
        clear hl b21
        go_wp2_with (first
          | (go_at_call 22; go_loud ((with_reducible refine Ks.out.mono ?_); rintro e w19 ⟨rfl, hx19⟩)))
        go_ret
        exact ⟨rfl, HX18.out.tr hx19⟩
      · by_cases h0 : e0 = 0
        · subst h0
          obtain ⟨k, f, hi, hk, hz, dL2, hl⟩ := ld_yes HIk.out (by rw [← Hse.out])
          rw [← Hld.out] at hl
          obtain ⟨-, hm2, hb2, he2⟩ : dL = dL2 ∧ mL = (manD f.data).1 ∧ bL = decide ((manD f.data).2 = 0) ∧ eL = (manD f.data).2 := by simpa using hl
          obtain ⟨y, hy⟩ : ∃ y, y = manD f.data := ⟨_, rfl⟩
          have hz2 : z = f.data.length := by rw [← hz, ← Hse.out]
          have KDc := Lib.hid fun A n c W (hr : Rd W A n (u8s f.data)) (hnc : n ≤ c) (hn : n ≤ maxLen) => mrdec_any A n c f.data W hr hnc hn
          have hlen : f.data.length ≤ maxLen := Hsm.out f.fv (List.mem_of_getElem? hk)
          have hml := manD_small f.data
          rw [← hy] at hm2 hb2 he2 KDc hml
          obtain ⟨y, ey⟩ := y
          dsimp only at hm2 hb2 he2 KDc hml
          subst hm2 he2
          have hml : mL.segs.length ≤ 4611686018427387904 := by omega
          have x6 : ((eL : Int) == 0) = bL := by
            rw [hb2]
            by_cases hc : eL = 0 <;> simp [hc]
          have x7 : (bL == bL) = true := by simp
          have x8 : ((eL : Int) == eL) = true := by simp
          clear hb2
          have hkn : k < n := by
            have h1 := (List.getElem?_eq_some_iff.1 hk).1
            have h2 : (imgL d).length = n := by rw [← Hm.out, List.length_map]; exact ho18.len
            omega
          have KA := Lib.hid fun W (hx : Ext W18 W) => rat_any A n c (imgL d) d.room d.fuse d.steps d.read d.down nmM W (hv_fl (ho18.ext hx) Hm.out) (by simp only [maxLen]; omega)
          rw [hi] at KA
          obtain ⟨fb, fo, f2, Af, cf, hhv, rfl, hfc⟩ := hv_at (RdN.of_own ho18.1) hkn
          have hfe : f2 = f.fv := by
            have h1 : (hv.map (·.1))[k]? = some f2 := by rw [List.getElem?_map, hhv]; rfl
            rw [Hm.out, hk] at h1
            injection h1 with h1
            exact h1.symm
          have hof := ho18.2 _ (List.mem_of_getElem? hhv)
          subst hfe
          dsimp only [Fil.fv] at hof
          have e1 : W18.cell? ⟨fb, fo + k * 3 + 1, none⟩ = some (.slice Af f.data.length cf) := hfc 1 _ rfl
          have hcap := own_capB hof
          rw [← hz2] at e1 hcap hlen hof
          have HS := Lib.hid fun (W : World) (h : Ext W18 W) => (show W.cell? ⟨g9, 0, none⟩ = some (.slice (some ⟨fb, fo, none⟩) n c) ∧ W.cell? ⟨g9, 1, none⟩ = some (.int .i64 d.room) ∧ W.cell? ⟨g9, 2, none⟩ = some (.int .i64 d.fuse) ∧ W.cell? ⟨g9, 3, none⟩ = some (.bool d.down) ∧ W.cell? ⟨g9, 4, none⟩ = some (.int .i64 d.steps) ∧ W.cell? ⟨g9, 5, none⟩ = some (.int .i64 d.read) ∧ W.cell? ⟨fb, fo + k * 3 + 1, none⟩ = some (.slice Af z cf) from ⟨(BlkE b918 h).cell 0, (BlkE b918 h).cell 1, (BlkE b918 h).cell 2, (BlkE b918 h).cell 3, (BlkE b918 h).cell 4, (BlkE b918 h).cell 5, h.cell e1⟩)
          have KDe := Lib.hid fun W (hx : Ext W18 W) => KDc.out Af z cf W (rd_own (own_ext hx hof)) hcap hlen
          unfold MdPost mfcells at KDe
          have HO18 := Lib.hid ho18
          unfold nmM at KA
          have B21 := Lib.hid b21
          have B918 := Lib.hid b918
          simp only [maxLen] at hlen
          clear hl hz hz2 hi hk hy hhv hfc hof e1 h51 KDc ho18 b918 Hm Hsm Hse Hld
          go_upto_region 27 with fail
          -- REGION27
          refine wp_region_held_drew (S := fun w' => Ext W18 w') (by kernel_rfl) (ExtD (Ext.rfl' W18)) (fun hS => ?_)
          refine takeD (some 148) (i := 0) (oi := ⟨some 148, _, _, _, _, _⟩) (v := .pointer (some ⟨g9, 0, none⟩)) rfl rfl (by kernel_rfl) (by kernel_rfl) (by kernel_rfl) (fun _ _ _ h => h) (Or.inl ⟨by kernel_rfl, fun w hw => by go_simp⟩) hS ?_; (try simp only [Act.put, List.setIfInBounds_toArray, List.set_cons_zero, List.set_cons_succ])
          refine takeD (some 149) (i := 1) (oi := ⟨some 149, _, _, _, _, _⟩) (v := .slice (some ⟨fb, fo, none⟩) n c) rfl rfl (by kernel_rfl) (by kernel_rfl) (by kernel_rfl) (fun _ _ _ h => h) (Or.inl ⟨by kernel_rfl, fun w' hw => by have hc0 := (HS.out w' hw).1; go_simp⟩) hS ?_; (try simp only [Act.put, List.setIfInBounds_toArray, List.set_cons_zero, List.set_cons_succ])
          refine takeD (some 150) (i := 2) (oi := ⟨some 150, _, _, _, _, _⟩) (v := .agg #[.slice (some ⟨fb, fo, none⟩) n c, .int .i64 d.room, .int .i64 d.fuse, .bool d.down, .int .i64 d.steps, .int .i64 d.read]) rfl rfl (by kernel_rfl) (by kernel_rfl) (by kernel_rfl) (fun _ _ _ h => h) (yields_row (by kernel_rfl) 28 (.tmp 9) rfl g9 28 #[.slice (some ⟨fb, fo, none⟩) n c, .int .i64 d.room, .int .i64 d.fuse, .bool d.down, .int .i64 d.steps, .int .i64 d.read] 6 rfl (fun w' hw => BlkE B918.out hw) disk_wide rfl) hS ?_; (try simp only [Act.put, List.setIfInBounds_toArray, List.set_cons_zero, List.set_cons_succ])
          refine takeD (some 155) (i := 7) (oi := ⟨some 155, _, _, _, _, _⟩) (v := .int .i64 (z : Nat)) rfl rfl (by kernel_rfl) (by kernel_rfl) (by kernel_rfl) (fun _ _ _ h => h) (Or.inl ⟨by kernel_rfl, fun w hw => by go_simp⟩) hS ?_; (try simp only [Act.put, List.setIfInBounds_toArray, List.set_cons_zero, List.set_cons_succ])
          refine wpAnyH_ready (rs := [3, 13]) (by kernel_rfl) (by simp) (AllReadyH.cons (o := ⟨some 151, _, _, _, _, _⟩) rfl (fun K hK => ?_) (AllReadyH.cons (o := ⟨some 24, _, _, _, _, _⟩) rfl (fun K hK => ?_) (AllReadyH.nil)))
          · refine step_callG rfl (some 151) rfl 24 _ Tryz.func24 (by kernel_rfl) (by kernel_rfl) _ _ rfl #[.agg #[.slice (some ⟨fb, fo, none⟩) n c, .int .i64 d.room, .int .i64 d.fuse, .bool d.down, .int .i64 d.steps, .int .i64 d.read], .string ⟨#[109, 97, 110, 105, 102, 101, 115, 116]⟩] (by first | rfl | simp [Act.eval, Act.put]) _ (KA.out _ hS) ?_; rintro e w19 ⟨rfl, hx19⟩; refine ⟨_, rfl, hK.out _ _ (Ext.tr hS hx19) ?_⟩; intro hS; clear hK; (try simp only [Act.put, List.setIfInBounds_toArray, List.set_cons_zero, List.set_cons_succ])
            refine takeD (some 152) (i := 4) (oi := ⟨some 152, _, _, _, _, _⟩) (v := .pointer (some ⟨fb, fo + k * 3, none⟩)) rfl rfl (by kernel_rfl) (by kernel_rfl) (by kernel_rfl) (fun _ _ _ h => h) (Or.inl ⟨by kernel_rfl, fun w hw => by go_simp⟩) hS ?_; (try simp only [Act.put, List.setIfInBounds_toArray, List.set_cons_zero, List.set_cons_succ])
            refine takeD (some 153) (i := 5) (oi := ⟨some 153, _, _, _, _, _⟩) (v := .pointer (some ⟨fb, fo + k * 3 + 1, none⟩)) rfl rfl (by kernel_rfl) (by kernel_rfl) (by kernel_rfl) (fun _ _ _ h => h) (Or.inl ⟨by kernel_rfl, fun w hw => by go_simp⟩) hS ?_; (try simp only [Act.put, List.setIfInBounds_toArray, List.set_cons_zero, List.set_cons_succ])
            refine takeD (some 154) (i := 6) (oi := ⟨some 154, _, _, _, _, _⟩) (v := .slice Af z cf) rfl rfl (by kernel_rfl) (by kernel_rfl) (by kernel_rfl) (fun _ _ _ h => h) (Or.inl ⟨by kernel_rfl, fun w' hw => by have hc0 := (HS.out w' hw).2.2.2.2.2.2; go_simp⟩) hS ?_; (try simp only [Act.put, List.setIfInBounds_toArray, List.set_cons_zero, List.set_cons_succ])
            refine takeD (some 156) (i := 8) (oi := ⟨some 156, _, _, _, _, _⟩) (v := .slice Af z cf) rfl rfl (by kernel_rfl) (by kernel_rfl) (by kernel_rfl) (fun _ _ _ h => h) (Or.inl ⟨by kernel_rfl, fun w hw => by go_simp⟩) hS ?_; (try simp only [Act.put, List.setIfInBounds_toArray, List.set_cons_zero, List.set_cons_succ])
            refine wpAnyH_ready (rs := [9, 13]) (by kernel_rfl) (by simp) (AllReadyH.cons (o := ⟨some 157, _, _, _, _, _⟩) rfl (fun K hK => ?_) (AllReadyH.cons (o := ⟨some 24, _, _, _, _, _⟩) rfl (fun K hK => ?_) (AllReadyH.nil)))
            · refine step_callG rfl (some 157) rfl 23 _ Tryz.func23 (by kernel_rfl) (by kernel_rfl) _ _ rfl #[.slice Af z cf] (by first | rfl | simp [Act.eval, Act.put]) _ (KDe.out _ hS) ?_; rintro e w20 ⟨A20, c20, rfl, hx20, ho20⟩; refine ⟨_, rfl, hK.out _ _ (Ext.tr hS hx20) ?_⟩; intro hS; clear hK; (try simp only [Act.put, List.setIfInBounds_toArray, List.set_cons_zero, List.set_cons_succ])
              refine takeD (some 147) (i := 10) (oi := ⟨some 147, _, _, _, _, _⟩) (v := .tuple #[.agg #[.int .i64 mL.gen, .int .i64 mL.next, .int .i64 mL.floor, .int .i64 mL.snap, .int .i64 mL.snapSeq, .slice A20 mL.segs.length c20], .int .i64 (eL : Nat)]) rfl rfl (by kernel_rfl) (by kernel_rfl) (by kernel_rfl) (fun _ _ _ h => h) (Or.inl ⟨by kernel_rfl, fun w hw => by go_simp⟩) hS ?_; (try simp only [Act.put, List.setIfInBounds_toArray, List.set_cons_zero, List.set_cons_succ])
              refine takeD (some 158) (i := 11) (oi := ⟨some 158, _, _, _, _, _⟩) (v := .agg #[.int .i64 mL.gen, .int .i64 mL.next, .int .i64 mL.floor, .int .i64 mL.snap, .int .i64 mL.snapSeq, .slice A20 mL.segs.length c20]) rfl rfl (by kernel_rfl) (by kernel_rfl) (by kernel_rfl) (fun _ _ _ h => h) (Or.inl ⟨by kernel_rfl, fun w hw => by go_simp⟩) hS ?_; (try simp only [Act.put, List.setIfInBounds_toArray, List.set_cons_zero, List.set_cons_succ])
              refine takeD (some 159) (i := 12) (oi := ⟨some 159, _, _, _, _, _⟩) (v := .int .i64 (eL : Nat)) rfl rfl (by kernel_rfl) (by kernel_rfl) (by kernel_rfl) (fun _ _ _ h => h) (Or.inl ⟨by kernel_rfl, fun w hw => by go_simp⟩) hS ?_; (try simp only [Act.put, List.setIfInBounds_toArray, List.set_cons_zero, List.set_cons_succ])
              refine wpAnyH_ready (rs := [13]) (by kernel_rfl) (by simp) (AllReadyH.cons (o := ⟨some 24, _, _, _, _, _⟩) rfl (fun K hK => ?_) (AllReadyH.nil))
              refine step_alloc rfl (some 24) rfl 25 rfl _ alloc_mf ?_; intro p24 w24 hg24 hx24 b24; have hn24 := Nat.le_trans (Below.size hS) hg24; refine hK.out _ _ (Ext.tr hS hx24) ?_; intro hS; clear hK; (try simp only [Act.put, List.setIfInBounds_toArray, List.set_cons_zero, List.set_cons_succ])
              refine wpAnyH_ready (rs := [14]) (by kernel_rfl) (by simp) (AllReadyH.cons (o := ⟨none, _, _, _, _, _⟩) rfl (fun K hK => ?_) (AllReadyH.nil))
              have b24z : Blk w24 p24 25 #[.int .i64 0, .int .i64 0, .int .i64 0, .int .i64 0, .int .i64 0, .slice none 0 0] := b24
              refine step_store_row rfl none rfl 25 (.tmp 24) (.tmp 158) rfl p24 25 _ #[.int .i64 mL.gen, .int .i64 mL.next, .int .i64 mL.floor, .int .i64 mL.snap, .int .i64 mL.snapSeq, .slice A20 mL.segs.length c20] rfl rfl b24z rfl (mf_one' _ _ _ _ _ _ _ _) 6 mf_wide rfl ?_; refine hK.out _ _ (ExtR hn24 hS) ?_; intro hS; clear hK; (try simp only [Act.put, List.setIfInBounds_toArray, List.set_cons_zero, List.set_cons_succ])
              have hend := fun (W : World) (hW : W = w24.setRow p24 #[.int .i64 mL.gen, .int .i64 mL.next, .int .i64 mL.floor, .int .i64 mL.snap, .int .i64 mL.snapSeq, .slice A20 mL.segs.length c20]) => (show Ext W18 W ∧ Blk W p24 25 #[.int .i64 mL.gen, .int .i64 mL.next, .int .i64 mL.floor, .int .i64 mL.snap, .int .i64 mL.snapSeq, .slice A20 mL.segs.length c20] ∧ SgRd W A20 mL.segs from by subst hW; exact ⟨hS, Blk.setRow_ b24z, OwnSg.rd (base := 0) (own_base (own_setRT (cs := #[.int .i64 0, .int .i64 0, .int .i64 0, .int .i64 0, .int .i64 0, .slice none 0 0]) (own_ext hx24 ho20) b24z (by decide)) (Nat.zero_le _))⟩)
              refine takeD (some 25) (i := 15) (oi := ⟨some 25, _, _, _, _, _⟩) (v := .int .i64 (eL : Nat)) rfl rfl (by kernel_rfl) (by kernel_rfl) (by kernel_rfl) (fun _ _ _ h => h) (Or.inl ⟨by kernel_rfl, fun w hw => by go_simp⟩) hS ?_; (try simp only [Act.put, List.setIfInBounds_toArray, List.set_cons_zero, List.set_cons_succ])
              refine wpAnyH_done (by kernel_rfl) ?_ _
              obtain ⟨W21, hW21⟩ : ∃ W, W = w24.setRow p24 #[.int .i64 mL.gen, .int .i64 mL.next, .int .i64 mL.floor, .int .i64 mL.snap, .int .i64 mL.snapSeq, .slice A20 mL.segs.length c20] := ⟨_, rfl⟩
              rw [← hW21]
              have hend := hend W21 hW21
              have hx21 := hend.1
              have s21 := hend.2.2
              have b21e := BlkE B21.out hx21
              have b24e := hend.2.1
              have f0 : W21.cell? ⟨p21, 0, none⟩ = some (.int .i64 mL.gen) := b21e.cell 0
              have f1 : W21.cell? ⟨p21, 1, none⟩ = some (.int .i64 mL.next) := b21e.cell 1
              have f2 : W21.cell? ⟨p21, 2, none⟩ = some (.int .i64 mL.floor) := b21e.cell 2
              have f3 : W21.cell? ⟨p21, 3, none⟩ = some (.int .i64 mL.snap) := b21e.cell 3
              have f4 : W21.cell? ⟨p21, 4, none⟩ = some (.int .i64 mL.snapSeq) := b21e.cell 4
              have f5 : W21.cell? ⟨p21, 5, none⟩ = some (.slice A17 mL.segs.length c17) := b21e.cell 5
              have g0 : W21.cell? ⟨p24, 0, none⟩ = some (.int .i64 mL.gen) := b24e.cell 0
              have g1 : W21.cell? ⟨p24, 1, none⟩ = some (.int .i64 mL.next) := b24e.cell 1
              have g2 : W21.cell? ⟨p24, 2, none⟩ = some (.int .i64 mL.floor) := b24e.cell 2
              have g3 : W21.cell? ⟨p24, 3, none⟩ = some (.int .i64 mL.snap) := b24e.cell 3
              have g4 : W21.cell? ⟨p24, 4, none⟩ = some (.int .i64 mL.snapSeq) := b24e.cell 4
              have g5 : W21.cell? ⟨p24, 5, none⟩ = some (.slice A20 mL.segs.length c20) := b24e.cell 5
              have KSx := Lib.hid (msame_any mL A17 A20 c17 c20 W21 (S17.out.ext hx21) s21 hml)
              unfold mfcells at KSx
              clear hend hW21 s21 b21e b24e hS b24z HS KA KDe B918
              go_wp2_with (first | (go_at_call 22; go_loud ((with_reducible refine KSx.out.mono ?_); rintro e w23 ⟨rfl, hx23⟩)))
              go_ret
              exact ⟨rfl, (HX18.out.tr hx21).tr hx23⟩
            · refine step_alloc rfl (some 24) rfl 25 rfl _ alloc_mf ?_; intro p24 w24 hg24 hx24 b24; have hn24 := Nat.le_trans (Below.size hS) hg24; refine hK.out _ _ (Ext.tr hS hx24) ?_; intro hS; clear hK; (try simp only [Act.put, List.setIfInBounds_toArray, List.set_cons_zero, List.set_cons_succ])
              refine wpAnyH_ready (rs := [9]) (by kernel_rfl) (by simp) (AllReadyH.cons (o := ⟨some 157, _, _, _, _, _⟩) rfl (fun K hK => ?_) (AllReadyH.nil))
              refine step_callG rfl (some 157) rfl 23 _ Tryz.func23 (by kernel_rfl) (by kernel_rfl) _ _ rfl #[.slice Af z cf] (by first | rfl | simp [Act.eval, Act.put]) _ (KDe.out _ hS) ?_; rintro e w20 ⟨A20, c20, rfl, hx20, ho20⟩; refine ⟨_, rfl, hK.out _ _ (Ext.tr hS hx20) ?_⟩; intro hS; clear hK; (try simp only [Act.put, List.setIfInBounds_toArray, List.set_cons_zero, List.set_cons_succ])
              refine takeD (some 147) (i := 10) (oi := ⟨some 147, _, _, _, _, _⟩) (v := .tuple #[.agg #[.int .i64 mL.gen, .int .i64 mL.next, .int .i64 mL.floor, .int .i64 mL.snap, .int .i64 mL.snapSeq, .slice A20 mL.segs.length c20], .int .i64 (eL : Nat)]) rfl rfl (by kernel_rfl) (by kernel_rfl) (by kernel_rfl) (fun _ _ _ h => h) (Or.inl ⟨by kernel_rfl, fun w hw => by go_simp⟩) hS ?_; (try simp only [Act.put, List.setIfInBounds_toArray, List.set_cons_zero, List.set_cons_succ])
              refine takeD (some 158) (i := 11) (oi := ⟨some 158, _, _, _, _, _⟩) (v := .agg #[.int .i64 mL.gen, .int .i64 mL.next, .int .i64 mL.floor, .int .i64 mL.snap, .int .i64 mL.snapSeq, .slice A20 mL.segs.length c20]) rfl rfl (by kernel_rfl) (by kernel_rfl) (by kernel_rfl) (fun _ _ _ h => h) (Or.inl ⟨by kernel_rfl, fun w hw => by go_simp⟩) hS ?_; (try simp only [Act.put, List.setIfInBounds_toArray, List.set_cons_zero, List.set_cons_succ])
              refine takeD (some 159) (i := 12) (oi := ⟨some 159, _, _, _, _, _⟩) (v := .int .i64 (eL : Nat)) rfl rfl (by kernel_rfl) (by kernel_rfl) (by kernel_rfl) (fun _ _ _ h => h) (Or.inl ⟨by kernel_rfl, fun w hw => by go_simp⟩) hS ?_; (try simp only [Act.put, List.setIfInBounds_toArray, List.set_cons_zero, List.set_cons_succ])
              refine wpAnyH_ready (rs := [14]) (by kernel_rfl) (by simp) (AllReadyH.cons (o := ⟨none, _, _, _, _, _⟩) rfl (fun K hK => ?_) (AllReadyH.nil))
              have b24z : Blk w20 p24 25 #[.int .i64 0, .int .i64 0, .int .i64 0, .int .i64 0, .int .i64 0, .slice none 0 0] := BlkE b24 hx20
              refine step_store_row rfl none rfl 25 (.tmp 24) (.tmp 158) rfl p24 25 _ #[.int .i64 mL.gen, .int .i64 mL.next, .int .i64 mL.floor, .int .i64 mL.snap, .int .i64 mL.snapSeq, .slice A20 mL.segs.length c20] rfl rfl b24z rfl (mf_one' _ _ _ _ _ _ _ _) 6 mf_wide rfl ?_; refine hK.out _ _ (ExtR hn24 hS) ?_; intro hS; clear hK; (try simp only [Act.put, List.setIfInBounds_toArray, List.set_cons_zero, List.set_cons_succ])
              have hend := fun (W : World) (hW : W = w20.setRow p24 #[.int .i64 mL.gen, .int .i64 mL.next, .int .i64 mL.floor, .int .i64 mL.snap, .int .i64 mL.snapSeq, .slice A20 mL.segs.length c20]) => (show Ext W18 W ∧ Blk W p24 25 #[.int .i64 mL.gen, .int .i64 mL.next, .int .i64 mL.floor, .int .i64 mL.snap, .int .i64 mL.snapSeq, .slice A20 mL.segs.length c20] ∧ SgRd W A20 mL.segs from by subst hW; exact ⟨hS, Blk.setRow_ b24z, OwnSg.rd (base := 0) (own_base (own_setRT (cs := #[.int .i64 0, .int .i64 0, .int .i64 0, .int .i64 0, .int .i64 0, .slice none 0 0]) (ho20) b24z (by decide)) (Nat.zero_le _))⟩)
              refine takeD (some 25) (i := 15) (oi := ⟨some 25, _, _, _, _, _⟩) (v := .int .i64 (eL : Nat)) rfl rfl (by kernel_rfl) (by kernel_rfl) (by kernel_rfl) (fun _ _ _ h => h) (Or.inl ⟨by kernel_rfl, fun w hw => by go_simp⟩) hS ?_; (try simp only [Act.put, List.setIfInBounds_toArray, List.set_cons_zero, List.set_cons_succ])
              refine wpAnyH_done (by kernel_rfl) ?_ _
              obtain ⟨W21, hW21⟩ : ∃ W, W = w20.setRow p24 #[.int .i64 mL.gen, .int .i64 mL.next, .int .i64 mL.floor, .int .i64 mL.snap, .int .i64 mL.snapSeq, .slice A20 mL.segs.length c20] := ⟨_, rfl⟩
              rw [← hW21]
              have hend := hend W21 hW21
              have hx21 := hend.1
              have s21 := hend.2.2
              have b21e := BlkE B21.out hx21
              have b24e := hend.2.1
              have f0 : W21.cell? ⟨p21, 0, none⟩ = some (.int .i64 mL.gen) := b21e.cell 0
              have f1 : W21.cell? ⟨p21, 1, none⟩ = some (.int .i64 mL.next) := b21e.cell 1
              have f2 : W21.cell? ⟨p21, 2, none⟩ = some (.int .i64 mL.floor) := b21e.cell 2
              have f3 : W21.cell? ⟨p21, 3, none⟩ = some (.int .i64 mL.snap) := b21e.cell 3
              have f4 : W21.cell? ⟨p21, 4, none⟩ = some (.int .i64 mL.snapSeq) := b21e.cell 4
              have f5 : W21.cell? ⟨p21, 5, none⟩ = some (.slice A17 mL.segs.length c17) := b21e.cell 5
              have g0 : W21.cell? ⟨p24, 0, none⟩ = some (.int .i64 mL.gen) := b24e.cell 0
              have g1 : W21.cell? ⟨p24, 1, none⟩ = some (.int .i64 mL.next) := b24e.cell 1
              have g2 : W21.cell? ⟨p24, 2, none⟩ = some (.int .i64 mL.floor) := b24e.cell 2
              have g3 : W21.cell? ⟨p24, 3, none⟩ = some (.int .i64 mL.snap) := b24e.cell 3
              have g4 : W21.cell? ⟨p24, 4, none⟩ = some (.int .i64 mL.snapSeq) := b24e.cell 4
              have g5 : W21.cell? ⟨p24, 5, none⟩ = some (.slice A20 mL.segs.length c20) := b24e.cell 5
              have KSx := Lib.hid (msame_any mL A17 A20 c17 c20 W21 (S17.out.ext hx21) s21 hml)
              unfold mfcells at KSx
              clear hend hW21 s21 b21e b24e hS b24z HS KA KDe B918
              go_wp2_with (first | (go_at_call 22; go_loud ((with_reducible refine KSx.out.mono ?_); rintro e w23 ⟨rfl, hx23⟩)))
              go_ret
              exact ⟨rfl, (HX18.out.tr hx21).tr hx23⟩
          · refine step_alloc rfl (some 24) rfl 25 rfl _ alloc_mf ?_; intro p24 w24 hg24 hx24 b24; have hn24 := Nat.le_trans (Below.size hS) hg24; refine hK.out _ _ (Ext.tr hS hx24) ?_; intro hS; clear hK; (try simp only [Act.put, List.setIfInBounds_toArray, List.set_cons_zero, List.set_cons_succ])
            refine wpAnyH_ready (rs := [3]) (by kernel_rfl) (by simp) (AllReadyH.cons (o := ⟨some 151, _, _, _, _, _⟩) rfl (fun K hK => ?_) (AllReadyH.nil))
            refine step_callG rfl (some 151) rfl 24 _ Tryz.func24 (by kernel_rfl) (by kernel_rfl) _ _ rfl #[.agg #[.slice (some ⟨fb, fo, none⟩) n c, .int .i64 d.room, .int .i64 d.fuse, .bool d.down, .int .i64 d.steps, .int .i64 d.read], .string ⟨#[109, 97, 110, 105, 102, 101, 115, 116]⟩] (by first | rfl | simp [Act.eval, Act.put]) _ (KA.out _ hS) ?_; rintro e w19 ⟨rfl, hx19⟩; refine ⟨_, rfl, hK.out _ _ (Ext.tr hS hx19) ?_⟩; intro hS; clear hK; (try simp only [Act.put, List.setIfInBounds_toArray, List.set_cons_zero, List.set_cons_succ])
            refine takeD (some 152) (i := 4) (oi := ⟨some 152, _, _, _, _, _⟩) (v := .pointer (some ⟨fb, fo + k * 3, none⟩)) rfl rfl (by kernel_rfl) (by kernel_rfl) (by kernel_rfl) (fun _ _ _ h => h) (Or.inl ⟨by kernel_rfl, fun w hw => by go_simp⟩) hS ?_; (try simp only [Act.put, List.setIfInBounds_toArray, List.set_cons_zero, List.set_cons_succ])
            refine takeD (some 153) (i := 5) (oi := ⟨some 153, _, _, _, _, _⟩) (v := .pointer (some ⟨fb, fo + k * 3 + 1, none⟩)) rfl rfl (by kernel_rfl) (by kernel_rfl) (by kernel_rfl) (fun _ _ _ h => h) (Or.inl ⟨by kernel_rfl, fun w hw => by go_simp⟩) hS ?_; (try simp only [Act.put, List.setIfInBounds_toArray, List.set_cons_zero, List.set_cons_succ])
            refine takeD (some 154) (i := 6) (oi := ⟨some 154, _, _, _, _, _⟩) (v := .slice Af z cf) rfl rfl (by kernel_rfl) (by kernel_rfl) (by kernel_rfl) (fun _ _ _ h => h) (Or.inl ⟨by kernel_rfl, fun w' hw => by have hc0 := (HS.out w' hw).2.2.2.2.2.2; go_simp⟩) hS ?_; (try simp only [Act.put, List.setIfInBounds_toArray, List.set_cons_zero, List.set_cons_succ])
            refine takeD (some 156) (i := 8) (oi := ⟨some 156, _, _, _, _, _⟩) (v := .slice Af z cf) rfl rfl (by kernel_rfl) (by kernel_rfl) (by kernel_rfl) (fun _ _ _ h => h) (Or.inl ⟨by kernel_rfl, fun w hw => by go_simp⟩) hS ?_; (try simp only [Act.put, List.setIfInBounds_toArray, List.set_cons_zero, List.set_cons_succ])
            refine wpAnyH_ready (rs := [9]) (by kernel_rfl) (by simp) (AllReadyH.cons (o := ⟨some 157, _, _, _, _, _⟩) rfl (fun K hK => ?_) (AllReadyH.nil))
            refine step_callG rfl (some 157) rfl 23 _ Tryz.func23 (by kernel_rfl) (by kernel_rfl) _ _ rfl #[.slice Af z cf] (by first | rfl | simp [Act.eval, Act.put]) _ (KDe.out _ hS) ?_; rintro e w20 ⟨A20, c20, rfl, hx20, ho20⟩; refine ⟨_, rfl, hK.out _ _ (Ext.tr hS hx20) ?_⟩; intro hS; clear hK; (try simp only [Act.put, List.setIfInBounds_toArray, List.set_cons_zero, List.set_cons_succ])
            refine takeD (some 147) (i := 10) (oi := ⟨some 147, _, _, _, _, _⟩) (v := .tuple #[.agg #[.int .i64 mL.gen, .int .i64 mL.next, .int .i64 mL.floor, .int .i64 mL.snap, .int .i64 mL.snapSeq, .slice A20 mL.segs.length c20], .int .i64 (eL : Nat)]) rfl rfl (by kernel_rfl) (by kernel_rfl) (by kernel_rfl) (fun _ _ _ h => h) (Or.inl ⟨by kernel_rfl, fun w hw => by go_simp⟩) hS ?_; (try simp only [Act.put, List.setIfInBounds_toArray, List.set_cons_zero, List.set_cons_succ])
            refine takeD (some 158) (i := 11) (oi := ⟨some 158, _, _, _, _, _⟩) (v := .agg #[.int .i64 mL.gen, .int .i64 mL.next, .int .i64 mL.floor, .int .i64 mL.snap, .int .i64 mL.snapSeq, .slice A20 mL.segs.length c20]) rfl rfl (by kernel_rfl) (by kernel_rfl) (by kernel_rfl) (fun _ _ _ h => h) (Or.inl ⟨by kernel_rfl, fun w hw => by go_simp⟩) hS ?_; (try simp only [Act.put, List.setIfInBounds_toArray, List.set_cons_zero, List.set_cons_succ])
            refine takeD (some 159) (i := 12) (oi := ⟨some 159, _, _, _, _, _⟩) (v := .int .i64 (eL : Nat)) rfl rfl (by kernel_rfl) (by kernel_rfl) (by kernel_rfl) (fun _ _ _ h => h) (Or.inl ⟨by kernel_rfl, fun w hw => by go_simp⟩) hS ?_; (try simp only [Act.put, List.setIfInBounds_toArray, List.set_cons_zero, List.set_cons_succ])
            refine wpAnyH_ready (rs := [14]) (by kernel_rfl) (by simp) (AllReadyH.cons (o := ⟨none, _, _, _, _, _⟩) rfl (fun K hK => ?_) (AllReadyH.nil))
            have b24z : Blk w20 p24 25 #[.int .i64 0, .int .i64 0, .int .i64 0, .int .i64 0, .int .i64 0, .slice none 0 0] := BlkE (BlkE b24 hx19) hx20
            refine step_store_row rfl none rfl 25 (.tmp 24) (.tmp 158) rfl p24 25 _ #[.int .i64 mL.gen, .int .i64 mL.next, .int .i64 mL.floor, .int .i64 mL.snap, .int .i64 mL.snapSeq, .slice A20 mL.segs.length c20] rfl rfl b24z rfl (mf_one' _ _ _ _ _ _ _ _) 6 mf_wide rfl ?_; refine hK.out _ _ (ExtR hn24 hS) ?_; intro hS; clear hK; (try simp only [Act.put, List.setIfInBounds_toArray, List.set_cons_zero, List.set_cons_succ])
            have hend := fun (W : World) (hW : W = w20.setRow p24 #[.int .i64 mL.gen, .int .i64 mL.next, .int .i64 mL.floor, .int .i64 mL.snap, .int .i64 mL.snapSeq, .slice A20 mL.segs.length c20]) => (show Ext W18 W ∧ Blk W p24 25 #[.int .i64 mL.gen, .int .i64 mL.next, .int .i64 mL.floor, .int .i64 mL.snap, .int .i64 mL.snapSeq, .slice A20 mL.segs.length c20] ∧ SgRd W A20 mL.segs from by subst hW; exact ⟨hS, Blk.setRow_ b24z, OwnSg.rd (base := 0) (own_base (own_setRT (cs := #[.int .i64 0, .int .i64 0, .int .i64 0, .int .i64 0, .int .i64 0, .slice none 0 0]) (ho20) b24z (by decide)) (Nat.zero_le _))⟩)
            refine takeD (some 25) (i := 15) (oi := ⟨some 25, _, _, _, _, _⟩) (v := .int .i64 (eL : Nat)) rfl rfl (by kernel_rfl) (by kernel_rfl) (by kernel_rfl) (fun _ _ _ h => h) (Or.inl ⟨by kernel_rfl, fun w hw => by go_simp⟩) hS ?_; (try simp only [Act.put, List.setIfInBounds_toArray, List.set_cons_zero, List.set_cons_succ])
            refine wpAnyH_done (by kernel_rfl) ?_ _
            obtain ⟨W21, hW21⟩ : ∃ W, W = w20.setRow p24 #[.int .i64 mL.gen, .int .i64 mL.next, .int .i64 mL.floor, .int .i64 mL.snap, .int .i64 mL.snapSeq, .slice A20 mL.segs.length c20] := ⟨_, rfl⟩
            rw [← hW21]
            have hend := hend W21 hW21
            have hx21 := hend.1
            have s21 := hend.2.2
            have b21e := BlkE B21.out hx21
            have b24e := hend.2.1
            have f0 : W21.cell? ⟨p21, 0, none⟩ = some (.int .i64 mL.gen) := b21e.cell 0
            have f1 : W21.cell? ⟨p21, 1, none⟩ = some (.int .i64 mL.next) := b21e.cell 1
            have f2 : W21.cell? ⟨p21, 2, none⟩ = some (.int .i64 mL.floor) := b21e.cell 2
            have f3 : W21.cell? ⟨p21, 3, none⟩ = some (.int .i64 mL.snap) := b21e.cell 3
            have f4 : W21.cell? ⟨p21, 4, none⟩ = some (.int .i64 mL.snapSeq) := b21e.cell 4
            have f5 : W21.cell? ⟨p21, 5, none⟩ = some (.slice A17 mL.segs.length c17) := b21e.cell 5
            have g0 : W21.cell? ⟨p24, 0, none⟩ = some (.int .i64 mL.gen) := b24e.cell 0
            have g1 : W21.cell? ⟨p24, 1, none⟩ = some (.int .i64 mL.next) := b24e.cell 1
            have g2 : W21.cell? ⟨p24, 2, none⟩ = some (.int .i64 mL.floor) := b24e.cell 2
            have g3 : W21.cell? ⟨p24, 3, none⟩ = some (.int .i64 mL.snap) := b24e.cell 3
            have g4 : W21.cell? ⟨p24, 4, none⟩ = some (.int .i64 mL.snapSeq) := b24e.cell 4
            have g5 : W21.cell? ⟨p24, 5, none⟩ = some (.slice A20 mL.segs.length c20) := b24e.cell 5
            have KSx := Lib.hid (msame_any mL A17 A20 c17 c20 W21 (S17.out.ext hx21) s21 hml)
            unfold mfcells at KSx
            clear hend hW21 s21 b21e b24e hS b24z HS KA KDe B918
            go_wp2_with (first | (go_at_call 22; go_loud ((with_reducible refine KSx.out.mono ?_); rintro e w23 ⟨rfl, hx23⟩)))
            go_ret
            exact ⟨rfl, (HX18.out.tr hx21).tr hx23⟩
          -- END27
        · have hl := ld_err (d := d) (by rw [← Hse.out]; exact h51) (by rw [← Hse.out]; exact h0)
          rw [← Hld.out, ← Hse.out] at hl
          obtain ⟨-, rfl, rfl, he9⟩ : dL = d ∧ mL = noMf ∧ bL = false ∧ e0 = eL := by simpa [eq_comm] using hl
          subst he9
          have x1 : ((e0 : Int) == 51) = false := by simp; omega
          have x2 : ((e0 : Int) != 0) = true := by simp; omega
          have x3 : ((e0 : Int) == e0) = true := by simp
          have x4 : ¬ (e0 : Int) = 51 := by omega
          have x5 : ¬ (e0 : Int) = 0 := by omega
          clear hl h51 h0
          go_wp2_with fail
          go_ret
          exact ⟨rfl, HX18.out⟩
end Go.Proofs.YtjajbbgebblalaaGreatDoor
