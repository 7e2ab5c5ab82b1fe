/-
  A writer by what it holds: its calls over one relation. The bytes of a string that is no constant.
-/
import Derived.Test.YtipdilmlodakoaaGreatWrW
import Derived.Test.YtipdilmlodakoaaGreatTurnC
import Derived.Lib.ConvBytes
namespace Go.Proofs.YtipdilmlodakoaaGreat
open Go.RowKit
set_option linter.unusedVariables false
set_option linter.unusedSimpArgs false
/-- The writer at g holds st; all that it made lies above W0. -/
def WS (W0 w : World) (g : Nat) (st : List Fld × Nat) : Prop :=
  ∃ A n c hs, WrB w g A n c st.2 ∧ hs.map (·.1) = st.1 ∧ OwnFs w W0.heap.size A n c hs ∧ Ext W0 w ∧ W0.heap.size ≤ g
theorem WS.x {W0 w : World} {g : Nat} {st : List Fld × Nat} (h : WS W0 w g st) : Ext W0 w := by obtain ⟨_, _, _, _, _, _, _, h, _⟩ := h; exact h
theorem WS.up {W0 w w' : World} {g : Nat} {st : List Fld × Nat} (h : WS W0 w g st) (hx : Ext w w') : WS W0 w' g st := by
  obtain ⟨A, n, c, hs, h1, h2, h3, h4, h5⟩ := h
  exact ⟨A, n, c, hs, BlkE h1 hx, h2, h3.ext' hx, h4.tr hx, h5⟩
theorem WS.mk0 {w w' : World} (hx : Ext w w') (hb : WrB w' w.heap.size none 0 0 0) : WS w w' w.heap.size ([], 0) :=
  ⟨none, 0, 0, [], hb, rfl, ⟨World.ownsRow_nil _ _ _ _, fun h hh => by cases hh⟩, hx, Nat.le_refl _⟩
theorem own_nil8 (w : World) (base : Nat) : w.ownsRow base 5 1 (.slice none 0 0) 0 (u8s []) := World.ownsRow_nil _ _ _ _
theorem ws_add {W0 w w' : World} {g : Nat} {st : List Fld × Nat} {A : Option Addr} {n c : Nat} {hs : List Held} {f : Fld} {Af : Option Addr} {cf : Nat} (hk : Kept st)
    (h1 : WrB w g A n c st.2) (h2 : hs.map (·.1) = st.1) (h3 : OwnFs w W0.heap.size A n c hs) (h4 : Ext W0 w) (h5 : W0.heap.size ≤ g)
    {A' : Option Addr} {n' c' : Nat} {hs' : List Held} (a1 : WrB w' g A' n' c' (addW st f).2) (a2 : hs'.map (·.1) = (addW st f).1) (a3 : hs' = hs ∨ hs' = hs ++ [(f, Af, cf)])
    (a4 : w'.ownsRow W0.heap.size 70 4 (.slice A' n' c') n' (fsCells hs')) (a5 : Turn (g :: blkOf A) w w') (hf : w'.ownsRow W0.heap.size 5 1 (.slice Af f.bytes.length cf) f.bytes.length (u8s f.bytes)) : WS W0 w' g (addW st f) := by
  refine ⟨A', n', c', hs', a1, a2, add_own h3 h1 a5 a4 a3 hf, a5.ext h4 fun r hr => ?_, h5⟩
  rcases List.mem_cons.1 hr with rfl | hr
  · exact h5
  · exact (h3.1.lt r (own_blkOf hr)).1
theorem wx_num {W0 w : World} {g : Nat} {st : List Fld × Nat} (h : WS W0 w g st) (hk : Kept st) (tag : Int) (v : Nat) :
    Calls Tryz.prog 17 #[.pointer (some ⟨g, 0, none⟩), .int .i64 tag, .int .u64 (v : Nat)] w fun e w' => e = .returned (.pointer (some ⟨g, 0, none⟩)) ∧ WS W0 w' g (addW st ⟨tag, false, v, []⟩) := by
  obtain ⟨A, n, c, hs, h1, h2, h3, h4, h5⟩ := h
  have hl : hs.length ≤ 31 := by have := hk.len; rw [← h2, List.length_map] at this; exact this
  refine (wnum_any w W0.heap.size g A n c hs st.2 tag v h1 h3.1 h4.size hl).mono ?_
  rintro e w' ⟨rfl, A', n', c', hs', a1, a2, a3, a4, a5, a6⟩
  rw [h2] at a1 a2
  exact ⟨rfl, ws_add hk h1 h2 h3 h4 h5 a1 a2 a3 a4 a5 (own_nil8 _ _)⟩
theorem wx_text {W0 w : World} {g : Nat} {st : List Fld × Nat} (h : WS W0 w g st) (hk : Kept st) (tag : Int) (l : List UInt8) (B : Option Addr) (cb : Nat) (hB : Rd w B l.length (u8s l)) (hl8 : l.length ≤ 140737488355328) :
    Calls Tryz.prog 18 #[.pointer (some ⟨g, 0, none⟩), .int .i64 tag, .slice B l.length cb] w fun e w' => e = .returned (.pointer (some ⟨g, 0, none⟩)) ∧ WS W0 w' g (addW st ⟨tag, true, 0, l⟩) := by
  obtain ⟨A, n, c, hs, h1, h2, h3, h4, h5⟩ := h
  have hl : hs.length ≤ 31 := by have := hk.len; rw [← h2, List.length_map] at this; exact this
  refine (wtext_any w W0.heap.size g A n c hs st.2 tag l B cb hB hl8 h1 h3.1 h4.size hl).mono ?_
  rintro e w' ⟨rfl, A', n', c', hs', Af, cf, a1, a2, a3, a4, a5, a6, a7⟩
  rw [h2] at a1 a2
  exact ⟨rfl, ws_add hk h1 h2 h3 h4 h5 a1 a2 a3 a4 a5 (own_base a7 h4.size)⟩
theorem wx_done {W0 w : World} {g : Nat} {st : List Fld × Nat} (h : WS W0 w g st) (hk : Kept st) :
    Calls Tryz.prog 20 #[.pointer (some ⟨g, 0, none⟩)] w fun e w' => ∃ A1 c1, e = .returned (.tuple #[.slice A1 (if st.2 = 0 then encR st.1 else []).length c1, .int .i64 ((if st.2 = 0 then encE st.1 else st.2 : Nat) : Int)]) ∧ Ext w w' ∧
      w'.ownsRow w.heap.size 5 1 (.slice A1 (if st.2 = 0 then encR st.1 else []).length c1) (if st.2 = 0 then encR st.1 else []).length (u8s (if st.2 = 0 then encR st.1 else [])) := by
  obtain ⟨A, n, c, hs, h1, h2, h3, h4, h5⟩ := h
  have hfs : FsRd w A n st.1 := by rw [← h2]; exact h3.rd
  have hn : n ≤ maxLen := by
    have := hfs.len; have h2 := hk.len; simp only [maxLen]; omega
  refine (wdone_any w g A n c st.1 st.2 h1 hfs hk.1 hn).mono ?_
  rintro e w' ⟨A1, n1, c1, rfl, hx, rfl, ho⟩
  exact ⟨A1, c1, rfl, hx, ho⟩
theorem bytes_run (s : ByteArray) (w : World) : (convert 9 28 (.string s)).run Tryz.prog w = .ok (.slice (some ⟨w.heap.size, 0, none⟩) s.size (grownCap w s.size 0 5)) (Lib.bytesWorld w 5 s) :=
  Lib.run_convert_string_bytes w _ _ _ s Tryz.underlying9 Tryz.underlying28 Tryz.underlying5
theorem bytes_ext (s : ByteArray) (w : World) : Ext w (Lib.bytesWorld w 5 s) :=
  ⟨rfl, rfl, rfl, by rw [Lib.bytesWorld_size]; omega, fun k hk => Lib.bytesWorld_at_old w _ s k hk⟩
theorem bytes_rd (s : ByteArray) (w : World) : Rd (Lib.bytesWorld w 5 s) (some ⟨w.heap.size, 0, none⟩) s.size (u8s s.data.toList) := by
  have hl : s.data.toList.length = s.size := by rw [Array.length_toList]; rfl
  refine ⟨by rw [u8s_len, hl], fun _ => ⟨_, 0, rfl, fun j u hu => ?_⟩⟩
  have hj : j < s.size := by
    rcases Nat.lt_or_ge j s.size with h | h
    · exact h
    · rw [List.getElem?_eq_none (by rw [u8s_len, hl]; exact h)] at hu; cases hu
  rw [Nat.zero_add, Lib.bytesWorld_cell w _ s j hj]
  unfold u8s at hu
  rw [List.getElem?_map] at hu
  cases h : s.data.toList[j]? with
  | none => rw [h] at hu; cases hu
  | some x =>
    rw [h] at hu
    injection hu with hu
    rw [← hu]
    simp [List.getD, h]
end Go.Proofs.YtipdilmlodakoaaGreat
