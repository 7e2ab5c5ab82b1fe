/-
  The walks of a writer: Zig on both sides, NewWriter, add, Num, Int, Text, Done.
-/
/-
  A writer by what it holds: its calls over one relation. The bytes of a string that is no constant.
-/
import Derived.Test.YtjajbbgebblalaaGreatDoorTurnB
import Derived.Test.YtjajbbgebblalaaGreatDoorVarP
import Derived.Test.YtjajbbgebblalaaGreatDoorSteps
import Derived.Laws.Bits64
import Derived.Shelf.RegionOpenPlain
import Derived.Lib.ConvBytes
namespace Go.Proofs.YtjajbbgebblalaaGreatDoor
open Go.RowKit
set_option linter.unusedVariables false
set_option linter.unusedSimpArgs false
theorem xor_ones (a : Nat) (ha : a < 18446744073709551616) : a ^^^ 18446744073709551615 = 18446744073709551615 - a := by
  have h := congrArg BitVec.toNat (BitVec.xor_allOnes (x := BitVec.ofNat 64 a))
  rw [BitVec.toNat_xor, BitVec.toNat_not, BitVec.toNat_allOnes, BitVec.toNat_ofNat, Nat.mod_eq_of_lt (by exact ha)] at h
  exact h
theorem zig_bits (v : Int) (h1 : -9223372036854775808 ≤ v) (h2 : v ≤ 9223372036854775807) :
    bits BinOp.xor IntKind.u64 (IntKind.u64.wrap (IntKind.u64.wrap v * 2)) (IntKind.u64.wrap (v / 9223372036854775808)) = (zig v : Nat) := by
  have hw : ∀ x : Int, IntKind.u64.wrap x = (toU x : Nat) := fun x => by
    rw [IntKind.wrap_u64]; unfold toU; omega
  rw [hw, hw, hw, bits_xor_u64_nat _ _ (toU_lt _) (toU_lt _)]
  congr 1
  unfold zig
  split
  · have e1 : toU (v / 9223372036854775808) = 18446744073709551615 := by unfold toU; omega
    rw [e1, xor_ones _ (toU_lt _)]
    unfold toU
    omega
  · have e1 : toU (v / 9223372036854775808) = 0 := by unfold toU; omega
    rw [e1, Nat.xor_zero]
    unfold toU
    omega
/-- The writer's block. -/
abbrev WrB (w : World) (g : Nat) (A : Option Addr) (n c : Nat) (bad : Nat) : Prop := Blk w g 250 #[.slice A n c, .int .i64 (bad : Nat)]
set_option maxRecDepth 100000 in
set_option maxHeartbeats 2000000 in
theorem newWriter_any (w : World) : Calls Tryz.prog 120 #[] w fun e w' => e = .returned (.pointer (some ⟨w.heap.size, 0, none⟩)) ∧ Ext w w' ∧ WrB w' w.heap.size none 0 0 0 := by
  go_enter Tryz.func120, Tryz.ntmps120
  go_wp2_with fail
  go_ret
  exact ⟨rfl, (by repeat (first | with_reducible exact Below.refl _ _ | with_reducible assumption | with_reducible refine ExtD ?_ | with_reducible refine ExtDN ?_ | with_reducible refine ExtA ?_ | (with_reducible refine ExtR ?_ ?_; (first | omega | (dsimp only; omega) | (simp; done) | (simp; omega))) | (with_reducible refine ExtS ?_ ?_; (first | omega | (dsimp only; omega) | (simp; done) | (simp; omega))) | with_reducible refine Ext.tr ?_ (by with_reducible assumption))), BlkN rfl⟩
theorem own_last {w : World} {base n c : Nat} {A : Option Addr} {hs : List Held} (h : w.ownsRow base 210 4 (.slice A n c) n (fsCells hs)) (hn : 0 < n) :
    ∃ b, A = some ⟨b, 0, none⟩ ∧ w.cell? ⟨b, (n - 1) * 4, none⟩ = some (.int .i64 (lastT (hs.map (·.1)))) := by
  have hlen : hs.length = n := by have := h.1; rw [fsCells_len] at this; omega
  have hr := RdN.of_own h
  rcases h.2 with ⟨_, h0⟩ | ⟨g, cap, cur, hv, _⟩
  · omega
  · injection hv with h1 h2 h3
    subst h1
    obtain ⟨b, o, he, hc⟩ := hr.2 hn
    injection he with he
    injection he with e1 e2
    subst e1 e2
    refine ⟨_, rfl, ?_⟩
    have hg : hs[n - 1]? = some hs[n - 1] := List.getElem?_eq_getElem (by omega)
    have h4 := hc ((n - 1) * 4 + 0) _ (by rw [fsCells_at hs (n - 1) 0 _ hg (by omega)]; rfl)
    rw [Nat.zero_add, Nat.add_zero] at h4
    rw [h4]
    unfold lastT
    rw [List.getLast?_map, List.getLast?_eq_getElem?, show hs.length - 1 = n - 1 by omega, hg]
    rfl
def AddPost (base g : Nat) (A : Option Addr) (hs : List Held) (bad : Nat) (f : Fld) (Af : Option Addr) (cf : Nat) (w : World) (e : Ending) (w' : World) : Prop :=
  e = .returned (.pointer (some ⟨g, 0, none⟩)) ∧ ∃ A' n' c' hs', WrB w' g A' n' c' (addW (hs.map (·.1), bad) f).2 ∧ hs'.map (·.1) = (addW (hs.map (·.1), bad) f).1 ∧ (hs' = hs ∨ hs' = hs ++ [(f, Af, cf)]) ∧
    w'.ownsRow base 210 4 (.slice A' n' c') n' (fsCells hs') ∧ Turn (g :: blkOf A) w w' ∧ ∀ r ∈ blkOf A', r ∈ blkOf A ∨ w.heap.size ≤ r
theorem blk_notin {w : World} {base g n c : Nat} {A : Option Addr} {hs : List Held} {t : TypeId} {cs : Array Value} (hb : Blk w g t cs) (h : w.ownsRow base 210 4 (.slice A n c) n (fsCells hs)) (ht : t ≠ 210) : g ∉ blkOf A := by
  intro hc
  have h1 := own_blkOf (n := n) (c := c) hc
  exact blk_off h hb ht h1
set_option maxRecDepth 100000 in
set_option maxHeartbeats 4000000 in
theorem add_bad (w : World) (base g : Nat) (A : Option Addr) (n c : Nat) (hs : List Held) (bad : Nat) (f : Fld) (Af : Option Addr) (cf : Nat) (hb : WrB w g A n c bad)
    (ho : w.ownsRow base 210 4 (.slice A n c) n (fsCells hs)) (hbad : bad ≠ 0) :
    Calls Tryz.prog 163 #[.pointer (some ⟨g, 0, none⟩), .agg (fcells f Af cf)] w (AddPost base g A hs bad f Af cf w) := by
  have t0 : ((bad : Int) != 0) = true := by simp; exact hbad
  have hlt := hb.lt
  have p1 : w.cell? ⟨g, 1, none⟩ = some (.int .i64 (bad : Nat)) := hb.cell 1
  have q1 : (w.alloc (.cells (fcells f Af cf) 210)).cell? ⟨g, 1, none⟩ = some (.int .i64 (bad : Nat)) := (BlkA hb).cell 1
  have Hb := Lib.hid hb
  have Ho := Lib.hid ho
  unfold AddPost
  rw [addW_bad (s := (hs.map (·.1), bad)) f hbad]
  unfold fcells at *
  clear hb ho
  go_enter Tryz.func163, Tryz.ntmps163
  go_wp2_with fail
  go_ret
  exact ⟨rfl, A, n, c, hs, BlkA Hb.out, rfl, .inl rfl, Ho.out.alloc _, (Ext.turn (by repeat (first | with_reducible exact Below.refl _ _ | with_reducible assumption | with_reducible refine ExtD ?_ | with_reducible refine ExtDN ?_ | with_reducible refine ExtA ?_ | (with_reducible refine ExtR ?_ ?_; (first | omega | (dsimp only; omega) | (simp; done) | (simp; omega))) | (with_reducible refine ExtS ?_ ?_; (first | omega | (dsimp only; omega) | (simp; done) | (simp; omega))) | with_reducible refine Ext.tr ?_ (by with_reducible assumption))) _), fun r hr => .inl hr⟩
set_option maxRecDepth 100000 in
set_option maxHeartbeats 4000000 in
theorem add_fine (w : World) (base g : Nat) (A : Option Addr) (n c : Nat) (hs : List Held) (f : Fld) (Af : Option Addr) (cf : Nat) (hb : WrB w g A n c 0)
    (ho : w.ownsRow base 210 4 (.slice A n c) n (fsCells hs)) (hbase : base ≤ w.heap.size) (hl : hs.length ≤ 31) :
    Calls Tryz.prog 163 #[.pointer (some ⟨g, 0, none⟩), .agg (fcells f Af cf)] w (AddPost base g A hs 0 f Af cf w) := by
  have hlen : hs.length = n := by have := ho.1; rw [fsCells_len] at this; omega
  have hlt := hb.lt
  have hgw : w.heap.size ≠ g := by omega
  have hgA := blk_notin hb ho (by decide)
  have KC := Lib.hid fun W => check_any f Af cf (lastT (hs.map (·.1))) W
  have q0 : (w.alloc (.cells (fcells f Af cf) 210)).cell? ⟨g, 0, none⟩ = some (.slice A n c) := (BlkA hb).cell 0
  have q1 : (w.alloc (.cells (fcells f Af cf) 210)).cell? ⟨g, 1, none⟩ = some (.int .i64 0) := (BlkA hb).cell 1
  have f1 : (w.alloc (.cells (fcells f Af cf) 210)).frozen? ⟨g, 1, none⟩ = false := (BlkA hb).frozen 1
  have b1 : Blk (w.alloc (.cells (fcells f Af cf) 210)) g 250 #[.slice A n c, .int .i64 0] := BlkA hb
  have b2 : Blk (w.alloc (.cells (fcells f Af cf) 210)) w.heap.size 210 (fcells f Af cf) := BlkN rfl
  have o1 : (w.alloc (.cells (fcells f Af cf) 210)).ownsRow base 210 4 (.slice A n c) n (fsCells hs) := ho.alloc _
  have hx0 : Ext w (w.alloc (.cells (fcells f Af cf) 210)) := (by repeat (first | with_reducible exact Below.refl _ _ | with_reducible assumption | with_reducible refine ExtD ?_ | with_reducible refine ExtDN ?_ | with_reducible refine ExtA ?_ | (with_reducible refine ExtR ?_ ?_; (first | omega | (dsimp only; omega) | (simp; done) | (simp; omega))) | (with_reducible refine ExtS ?_ ?_; (first | omega | (dsimp only; omega) | (simp; done) | (simp; omega))) | with_reducible refine Ext.tr ?_ (by with_reducible assumption)))
  have hz : (w.alloc (.cells (fcells f Af cf) 210)).heap.size = w.heap.size + 1 := by simp
  have hlast : 0 < n → ∃ b, A = some ⟨b, 0, none⟩ ∧ (w.alloc (.cells (fcells f Af cf) 210)).cell? ⟨b, (n - 1) * 4, none⟩ = some (.int .i64 (lastT (hs.map (·.1)))) := fun h => own_last o1 h
  have hL0 : n = 0 → lastT (hs.map (·.1)) = 0 := fun h => by
    have : hs = [] := List.eq_nil_of_length_eq_zero (by omega)
    rw [this]; rfl
  unfold AddPost
  have Hhl := Lib.hid hl
  have Hlen := Lib.hid hlen
  have Hb := Lib.hid hbase
  obtain ⟨tag, text, num, bytes⟩ := f
  unfold fcells at *
  dsimp only at *
  have hn31 : n ≤ 31 := by omega
  clear hz hlen hl hbase
  obtain ⟨L, hL⟩ : ∃ L, lastT (hs.map (·.1)) = L := ⟨_, rfl⟩
  rw [hL] at KC hlast hL0
  obtain ⟨X, hX⟩ : ∃ X, fault ⟨tag, text, num, bytes⟩ L = X := ⟨_, rfl⟩
  have HL := Lib.hid hL
  have HX := Lib.hid hX
  clear hL hX
  by_cases hn : 0 < n
  · obtain ⟨b, rfl, hcl⟩ := hlast hn
    clear hlast hL0
    obtain ⟨k, rfl⟩ : ∃ k, n = k + 1 := ⟨n - 1, by omega⟩
    rw [Nat.add_sub_cancel] at hcl
    have hk : k ≤ 31 := by omega
    by_cases x22 : X = 22
    · subst x22
      go_enter Tryz.func163, Tryz.ntmps163
      go_wp2_with (go_at_call 216; (with_reducible refine (KC.out _).mono ?_); unfold FaultPost; rintro e w1 ⟨rfl, hx1⟩; rw [HX.out]; have b3 := BlkE b1 hx1; have b4 := BlkE b2 hx1; have o3 := own_ext hx1 o1; have g0 := b3.cell 0; have g1 := b3.cell 1; have k1 := b3.frozen 1; have k0 := b3.frozen 0)
      go_ret
      refine ⟨rfl, _, (k + 1), c, hs, ?_, ?_, .inl rfl, ?_, ?_, fun r hr => .inl hr⟩
      · rw [addW_zero (by rw [HL.out]; exact HX.out)]
        exact Blk_eq (BlkS (BlkS b3)) rfl
      · rw [addW_zero (by rw [HL.out]; exact HX.out)]
      · exact own_put (own_put o3 hgA) hgA
      · exact ((Ext.turn (Ext.tr hx0 hx1) _).tr (Turn.cell (by simp))).tr (Turn.cell (by simp))
    · by_cases x0 : X = 0
      · subst x0
        have Hrd := Lib.hid fun (W : World) => rdF_new W _ ⟨tag, text, num, bytes⟩ Af cf rfl
        go_enter Tryz.func163, Tryz.ntmps163
        go_wp2_with (go_at_call 216; (with_reducible refine (KC.out _).mono ?_); unfold FaultPost; rintro e w1 ⟨rfl, hx1⟩; rw [HX.out]; have b3 := BlkE b1 hx1; have b4 := BlkE b2 hx1; have o3 := own_ext hx1 o1; have g0 := b3.cell 0; have g1 := b3.cell 1; have k1 := b3.frozen 1; have k0 := b3.frozen 0)
        have b5 : Blk (w1.setCell ⟨g, 1, none⟩ (.int .i64 0)) g 250 #[.slice (some ⟨b, 0, none⟩) (k + 1) c, .int .i64 0] := BlkS (i := 1) (u := .int .i64 0) b3
        have b6 : Blk (w1.setCell ⟨g, 1, none⟩ (.int .i64 0)) w.heap.size 210 #[.int .i64 tag, .bool text, .int .u64 (num : Nat), .slice Af bytes.length cf] := BlkF (p := ⟨g, 1, none⟩) (by exact hgw) b4
        have o5 := own_put (i := 1) (u := .int .i64 0) o3 hgA
        have hT5 := ((Ext.turn (Ext.tr hx0 hx1) (g :: blkOf (some ⟨b, 0, none⟩))).tr (Turn.cell (p := ⟨g, 1, none⟩) (v := .int .i64 0) (by simp)))
        clear b3 b4 o3 g0 g1 k1 k0
        generalize (w1.setCell ⟨g, 1, none⟩ (.int .i64 0)) = w2 at *
        have g0 : w2.cell? ⟨g, 0, none⟩ = some (.slice (some ⟨b, 0, none⟩) (k + 1) c) := b5.cell 0
        have e0 := b6.cell 0
        have e1 := b6.cell 1
        have e2 := b6.cell 2
        have e3 := b6.cell 3
        have O5 := Lib.hid (own_ext (ExtD (Ext.rfl' w2)) o5)
        have B5 := Lib.hid (BlkD b5)
        have b5' := b5
        have hbz : base ≤ w2.drew.heap.size := Nat.le_trans Hb.out hT5.size
        clear o5 b5 b6
        have G0 : ∀ ob, (w2.alloc ob).cell? ⟨g, 0, none⟩ = some (.slice (some ⟨b, 0, none⟩) (k + 1) c) := fun ob => (BlkA (o := ob) b5').cell 0
        clear b5'
        have mixed : Tryz.prog.follows Departure.mixedOrders = true := by kernel_rfl
        go_region_law_o (refine step_appendFd rfl (some 60) rfl (.tmp 57) (.tmp 59) rfl base (Nat.le_trans hbz (by simp)) rfl (O5.out.alloc _) rfl (Hrd.out _) (by have := Hhl.out; simp; omega) ?_; intro A3 n3 c3 w4 hn3 ho3 ht3 hb3; have b7 := ht3.blk (BlkA B5.out) hgA; have z0 := b7.cell 0; have z1 := b7.frozen 0; have ht5 : Turn (g :: blkOf (some ⟨b, 0, none⟩)) w w4 := (hT5.tr (Ext.turn (a := w2) (by repeat (first | with_reducible exact Below.refl _ _ | with_reducible assumption | with_reducible refine ExtD ?_ | with_reducible refine ExtDN ?_ | with_reducible refine ExtA ?_ | (with_reducible refine ExtR ?_ ?_; (first | omega | (dsimp only; omega) | (simp; done) | (simp; omega))) | (with_reducible refine ExtS ?_ ?_; (first | omega | (dsimp only; omega) | (simp; done) | (simp; omega))) | with_reducible refine Ext.tr ?_ (by with_reducible assumption))) _)).trans ht3 (fun r hr => .inl (by simp [hr])); have hb5 : ∀ r ∈ blkOf A3, r ∈ blkOf (some ⟨b, 0, none⟩) ∨ w.heap.size ≤ r := fun r hr => (hb3 r hr).imp id (fun h => Nat.le_trans (Nat.le_trans hT5.size (Below.size (B := w2.heap.size) (w := w2) (by repeat (first | with_reducible exact Below.refl _ _ | with_reducible assumption | with_reducible refine ExtD ?_ | with_reducible refine ExtDN ?_ | with_reducible refine ExtA ?_ | (with_reducible refine ExtR ?_ ?_; (first | omega | (dsimp only; omega) | (simp; done) | (simp; omega))) | (with_reducible refine ExtS ?_ ?_; (first | omega | (dsimp only; omega) | (simp; done) | (simp; omega))) | with_reducible refine Ext.tr ?_ (by with_reducible assumption))))) h); clear ht3 hb3)
        all_goals
          go_wp2_with fail
          go_ret
          have hf2 : addW (List.map (fun x => x.1) hs, 0) ⟨tag, text, num, bytes⟩ = (List.map (fun x => x.1) hs ++ [⟨tag, text, num, bytes⟩], 0) := addW_ok (by rw [HL.out]; exact HX.out)
          rw [hf2]
          refine ⟨rfl, A3, n3, c3, hs ++ [(⟨tag, text, num, bytes⟩, Af, cf)], Blk_eq (BlkS b7) rfl, by simp, .inr rfl, ?_, ht5.tr (Turn.cell (by simp)), hb5⟩
          exact (Turn.cell (F := [g]) (p := ⟨g, 0, none⟩) (by simp)).own ho3 fun r hr => by
            have hr2 := hb5 r (by rw [blkOf_own hr]; simp)
            simp only [List.mem_singleton]
            intro hc
            subst hc
            rcases hr2 with hr2 | hr2
            · exact hgA hr2
            · omega
      · have x1 : ((X : Int) == 22) = false := by simp; omega
        have x2 : ((X : Int) == 0) = false := by simp; omega
        have Hx22 := Lib.hid x22
        have Hx0 := Lib.hid x0
        clear x22 x0
        go_enter Tryz.func163, Tryz.ntmps163
        go_wp2_with (go_at_call 216; (with_reducible refine (KC.out _).mono ?_); unfold FaultPost; rintro e w1 ⟨rfl, hx1⟩; rw [HX.out]; have b3 := BlkE b1 hx1; have b4 := BlkE b2 hx1; have o3 := own_ext hx1 o1; have g0 := b3.cell 0; have g1 := b3.cell 1; have k1 := b3.frozen 1; have k0 := b3.frozen 0)
        go_ret
        have hf2 : addW (List.map (fun x => x.1) hs, 0) ⟨tag, text, num, bytes⟩ = (List.map (fun x => x.1) hs, X) := by
          rw [addW_fault (by rw [HL.out, HX.out]; exact Hx0.out) (by rw [HL.out, HX.out]; exact Hx22.out), HL.out, HX.out]
        rw [hf2]
        exact ⟨rfl, _, (k + 1), c, hs, Blk_eq (BlkS b3) rfl, rfl, .inl rfl, own_put o3 hgA, (Ext.turn (Ext.tr hx0 hx1) _).tr (Turn.cell (by simp)), fun r hr => .inl hr⟩
  · obtain rfl : n = 0 := by omega
    obtain rfl := hL0 rfl
    clear hlast hL0
    by_cases x22 : X = 22
    · subst x22
      go_enter Tryz.func163, Tryz.ntmps163
      go_wp2_with (go_at_call 216; (with_reducible refine (KC.out _).mono ?_); unfold FaultPost; rintro e w1 ⟨rfl, hx1⟩; rw [HX.out]; have b3 := BlkE b1 hx1; have b4 := BlkE b2 hx1; have o3 := own_ext hx1 o1; have g0 := b3.cell 0; have g1 := b3.cell 1; have k1 := b3.frozen 1; have k0 := b3.frozen 0)
      go_ret
      refine ⟨rfl, _, 0, c, hs, ?_, ?_, .inl rfl, ?_, ?_, fun r hr => .inl hr⟩
      · rw [addW_zero (by rw [HL.out]; exact HX.out)]
        exact Blk_eq (BlkS (BlkS b3)) rfl
      · rw [addW_zero (by rw [HL.out]; exact HX.out)]
      · exact own_put (own_put o3 hgA) hgA
      · exact ((Ext.turn (Ext.tr hx0 hx1) _).tr (Turn.cell (by simp))).tr (Turn.cell (by simp))
    · by_cases x0 : X = 0
      · subst x0
        have Hrd := Lib.hid fun (W : World) => rdF_new W _ ⟨tag, text, num, bytes⟩ Af cf rfl
        go_enter Tryz.func163, Tryz.ntmps163
        go_wp2_with (go_at_call 216; (with_reducible refine (KC.out _).mono ?_); unfold FaultPost; rintro e w1 ⟨rfl, hx1⟩; rw [HX.out]; have b3 := BlkE b1 hx1; have b4 := BlkE b2 hx1; have o3 := own_ext hx1 o1; have g0 := b3.cell 0; have g1 := b3.cell 1; have k1 := b3.frozen 1; have k0 := b3.frozen 0)
        have b5 : Blk (w1.setCell ⟨g, 1, none⟩ (.int .i64 0)) g 250 #[.slice A 0 c, .int .i64 0] := BlkS (i := 1) (u := .int .i64 0) b3
        have b6 : Blk (w1.setCell ⟨g, 1, none⟩ (.int .i64 0)) w.heap.size 210 #[.int .i64 tag, .bool text, .int .u64 (num : Nat), .slice Af bytes.length cf] := BlkF (p := ⟨g, 1, none⟩) (by exact hgw) b4
        have o5 := own_put (i := 1) (u := .int .i64 0) o3 hgA
        have hT5 := ((Ext.turn (Ext.tr hx0 hx1) (g :: blkOf A)).tr (Turn.cell (p := ⟨g, 1, none⟩) (v := .int .i64 0) (by simp)))
        clear b3 b4 o3 g0 g1 k1 k0
        generalize (w1.setCell ⟨g, 1, none⟩ (.int .i64 0)) = w2 at *
        have g0 : w2.cell? ⟨g, 0, none⟩ = some (.slice A 0 c) := b5.cell 0
        have e0 := b6.cell 0
        have e1 := b6.cell 1
        have e2 := b6.cell 2
        have e3 := b6.cell 3
        have O5 := Lib.hid (own_ext (ExtD (Ext.rfl' w2)) o5)
        have B5 := Lib.hid (BlkD b5)
        have b5' := b5
        have hbz : base ≤ w2.drew.heap.size := Nat.le_trans Hb.out hT5.size
        clear o5 b5 b6
        have G0 : ∀ ob, (w2.alloc ob).cell? ⟨g, 0, none⟩ = some (.slice A 0 c) := fun ob => (BlkA (o := ob) b5').cell 0
        clear b5'
        have mixed : Tryz.prog.follows Departure.mixedOrders = true := by kernel_rfl
        go_region_law_o (refine step_appendFd rfl (some 60) rfl (.tmp 57) (.tmp 59) rfl base (Nat.le_trans hbz (by simp)) rfl (O5.out.alloc _) rfl (Hrd.out _) (by have := Hhl.out; simp; omega) ?_; intro A3 n3 c3 w4 hn3 ho3 ht3 hb3; have b7 := ht3.blk (BlkA B5.out) hgA; have z0 := b7.cell 0; have z1 := b7.frozen 0; have ht5 : Turn (g :: blkOf A) w w4 := (hT5.tr (Ext.turn (a := w2) (by repeat (first | with_reducible exact Below.refl _ _ | with_reducible assumption | with_reducible refine ExtD ?_ | with_reducible refine ExtDN ?_ | with_reducible refine ExtA ?_ | (with_reducible refine ExtR ?_ ?_; (first | omega | (dsimp only; omega) | (simp; done) | (simp; omega))) | (with_reducible refine ExtS ?_ ?_; (first | omega | (dsimp only; omega) | (simp; done) | (simp; omega))) | with_reducible refine Ext.tr ?_ (by with_reducible assumption))) _)).trans ht3 (fun r hr => .inl (by simp [hr])); have hb5 : ∀ r ∈ blkOf A3, r ∈ blkOf A ∨ w.heap.size ≤ r := fun r hr => (hb3 r hr).imp id (fun h => Nat.le_trans (Nat.le_trans hT5.size (Below.size (B := w2.heap.size) (w := w2) (by repeat (first | with_reducible exact Below.refl _ _ | with_reducible assumption | with_reducible refine ExtD ?_ | with_reducible refine ExtDN ?_ | with_reducible refine ExtA ?_ | (with_reducible refine ExtR ?_ ?_; (first | omega | (dsimp only; omega) | (simp; done) | (simp; omega))) | (with_reducible refine ExtS ?_ ?_; (first | omega | (dsimp only; omega) | (simp; done) | (simp; omega))) | with_reducible refine Ext.tr ?_ (by with_reducible assumption))))) h); clear ht3 hb3)
        all_goals
          go_wp2_with fail
          go_ret
          have hf2 : addW (List.map (fun x => x.1) hs, 0) ⟨tag, text, num, bytes⟩ = (List.map (fun x => x.1) hs ++ [⟨tag, text, num, bytes⟩], 0) := addW_ok (by rw [HL.out]; exact HX.out)
          rw [hf2]
          refine ⟨rfl, A3, n3, c3, hs ++ [(⟨tag, text, num, bytes⟩, Af, cf)], Blk_eq (BlkS b7) rfl, by simp, .inr rfl, ?_, ht5.tr (Turn.cell (by simp)), hb5⟩
          exact (Turn.cell (F := [g]) (p := ⟨g, 0, none⟩) (by simp)).own ho3 fun r hr => by
            have hr2 := hb5 r (by rw [blkOf_own hr]; simp)
            simp only [List.mem_singleton]
            intro hc
            subst hc
            rcases hr2 with hr2 | hr2
            · exact hgA hr2
            · omega
      · have x1 : ((X : Int) == 22) = false := by simp; omega
        have x2 : ((X : Int) == 0) = false := by simp; omega
        have Hx22 := Lib.hid x22
        have Hx0 := Lib.hid x0
        clear x22 x0
        go_enter Tryz.func163, Tryz.ntmps163
        go_wp2_with (go_at_call 216; (with_reducible refine (KC.out _).mono ?_); unfold FaultPost; rintro e w1 ⟨rfl, hx1⟩; rw [HX.out]; have b3 := BlkE b1 hx1; have b4 := BlkE b2 hx1; have o3 := own_ext hx1 o1; have g0 := b3.cell 0; have g1 := b3.cell 1; have k1 := b3.frozen 1; have k0 := b3.frozen 0)
        go_ret
        have hf2 : addW (List.map (fun x => x.1) hs, 0) ⟨tag, text, num, bytes⟩ = (List.map (fun x => x.1) hs, X) := by
          rw [addW_fault (by rw [HL.out, HX.out]; exact Hx0.out) (by rw [HL.out, HX.out]; exact Hx22.out), HL.out, HX.out]
        rw [hf2]
        exact ⟨rfl, _, 0, c, hs, Blk_eq (BlkS b3) rfl, rfl, .inl rfl, own_put o3 hgA, (Ext.turn (Ext.tr hx0 hx1) _).tr (Turn.cell (by simp)), fun r hr => .inl hr⟩
theorem add_any (w : World) (base g : Nat) (A : Option Addr) (n c : Nat) (hs : List Held) (bad : Nat) (f : Fld) (Af : Option Addr) (cf : Nat) (hb : WrB w g A n c bad)
    (ho : w.ownsRow base 210 4 (.slice A n c) n (fsCells hs)) (hbase : base ≤ w.heap.size) (hl : hs.length ≤ 31) :
    Calls Tryz.prog 163 #[.pointer (some ⟨g, 0, none⟩), .agg (fcells f Af cf)] w (AddPost base g A hs bad f Af cf w) := by
  by_cases h : bad = 0
  · subst h
    exact add_fine w base g A n c hs f Af cf hb ho hbase hl
  · exact add_bad w base g A n c hs bad f Af cf hb ho h
set_option maxRecDepth 100000 in
set_option maxHeartbeats 4000000 in
theorem wnum_any (w : World) (base g : Nat) (A : Option Addr) (n c : Nat) (hs : List Held) (bad : Nat) (tag : Int) (v : Nat) (hb : WrB w g A n c bad)
    (ho : w.ownsRow base 210 4 (.slice A n c) n (fsCells hs)) (hbase : base ≤ w.heap.size) (hl : hs.length ≤ 31) :
    Calls Tryz.prog 121 #[.pointer (some ⟨g, 0, none⟩), .int .i64 tag, .int .u64 (v : Nat)] w (AddPost base g A hs bad ⟨tag, false, v, []⟩ none 0 w) := by
  have K : Hid (Calls Tryz.prog 163 #[.pointer (some ⟨g, 0, none⟩), .agg #[.int .i64 tag, .bool false, .int .u64 (v : Nat), .slice none 0 0]] w (AddPost base g A hs bad ⟨tag, false, v, []⟩ none 0 w)) := Lib.hid (add_any w base g A n c hs bad ⟨tag, false, v, []⟩ none 0 hb ho hbase hl)
  clear hb ho hbase hl
  unfold AddPost at *
  go_enter Tryz.func121, Tryz.ntmps121
  go_wp2_with (go_at_call 163; (with_reducible refine K.out.mono ?_); rintro e w1 ⟨rfl, hr⟩; have Hr := Lib.hid hr; clear hr)
  go_ret
  exact ⟨rfl, Hr.out⟩
/-- A text that is put: the element's bytes lie in a block of the call's own. -/
def TextPost (base g : Nat) (A : Option Addr) (hs : List Held) (bad : Nat) (f : Fld) (w : World) (e : Ending) (w' : World) : Prop :=
  e = .returned (.pointer (some ⟨g, 0, none⟩)) ∧ ∃ A' n' c' hs' Af cf, WrB w' g A' n' c' (addW (hs.map (·.1), bad) f).2 ∧ hs'.map (·.1) = (addW (hs.map (·.1), bad) f).1 ∧ (hs' = hs ∨ hs' = hs ++ [(f, Af, cf)]) ∧
    w'.ownsRow base 210 4 (.slice A' n' c') n' (fsCells hs') ∧ Turn (g :: blkOf A) w w' ∧ (∀ r ∈ blkOf A', r ∈ blkOf A ∨ w.heap.size ≤ r) ∧ w'.ownsRow w.heap.size 5 1 (.slice Af f.bytes.length cf) f.bytes.length (u8s f.bytes)
set_option maxRecDepth 100000 in
set_option maxHeartbeats 4000000 in
theorem wtext_any (w : World) (base g : Nat) (A : Option Addr) (n c : Nat) (hs : List Held) (bad : Nat) (tag : Int) (l : List UInt8) (B : Option Addr) (cb : Nat) (hB : Rd w B l.length (u8s l)) (hl8 : l.length ≤ 140737488355328) (hb : WrB w g A n c bad)
    (ho : w.ownsRow base 210 4 (.slice A n c) n (fsCells hs)) (hbase : base ≤ w.heap.size) (hl : hs.length ≤ 31) :
    Calls Tryz.prog 122 #[.pointer (some ⟨g, 0, none⟩), .int .i64 tag, .slice B l.length cb] w (TextPost base g A hs bad ⟨tag, true, 0, l⟩ w) := by
  have KC := Lib.hid (clone_any B l.length cb l w hB hl8)
  have K : Hid (∀ W Af cf, Ext w W → Calls Tryz.prog 163 #[.pointer (some ⟨g, 0, none⟩), .agg #[.int .i64 tag, .bool true, .int .u64 0, .slice Af l.length cf]] W (AddPost base g A hs bad ⟨tag, true, 0, l⟩ Af cf W)) :=
    Lib.hid fun W Af cf hx => add_any W base g A n c hs bad ⟨tag, true, 0, l⟩ Af cf (BlkE hb hx) (own_ext hx ho) (Nat.le_trans hbase hx.size) hl
  have Hlt := Lib.hid (show g < w.heap.size ∧ ∀ r ∈ blkOf A, r < w.heap.size from ⟨hb.lt, fun r hr => (ho.lt r (own_blkOf hr)).2⟩)
  clear hb ho hbase hl hB hl8
  unfold AddPost NewB at *
  unfold TextPost
  go_enter Tryz.func122, Tryz.ntmps122
  go_wp2_with (first
    | (go_at_call 53; (with_reducible refine KC.out.mono ?_); rintro e w1 ⟨A1, c1, rfl, hx1, ho1⟩; have O1 := Lib.hid ho1; clear ho1)
    | (go_at_call 163; (with_reducible refine (K.out _ _ _ hx1).mono ?_); rintro e w2 ⟨rfl, hr⟩; have Hr := Lib.hid hr; clear hr))
  go_ret
  obtain ⟨A', n', c', hs', a1, a2, a3, a4, a5, a6⟩ := Hr.out
  have hr1 : ∀ r ∈ blkOf A1, w.heap.size ≤ r := fun r hr => (O1.out.lt r (own_blkOf hr)).1
  refine ⟨rfl, A', n', c', hs', A1, c1, a1, a2, a3, a4, (hx1.turn _).tr a5, fun r hr => (a6 r hr).imp id fun h => Nat.le_trans hx1.size h, ?_⟩
  refine a5.own O1.out fun r hr hc => ?_
  have h1 := hr1 r (by rw [blkOf_own hr]; simp)
  simp only [List.mem_cons] at hc
  rcases hc with rfl | hc
  · have := Hlt.out.1; omega
  · have := Hlt.out.2 r hc; omega
set_option maxRecDepth 100000 in
set_option maxHeartbeats 4000000 in
theorem wdone_any (w : World) (g : Nat) (A : Option Addr) (n c : Nat) (fs : List Fld) (bad : Nat) (hb : WrB w g A n c bad) (hr : FsRd w A n fs) (hw : FWf fs) (hn : n ≤ maxLen) :
    Calls Tryz.prog 124 #[.pointer (some ⟨g, 0, none⟩)] w fun e w' => ∃ A1 n1 c1, e = .returned (.tuple #[.slice A1 n1 c1, .int .i64 ((if bad = 0 then encE fs else bad : Nat) : Int)]) ∧ Ext w w' ∧ n1 = (if bad = 0 then encR fs else []).length ∧ w'.ownsRow w.heap.size 5 1 (.slice A1 n1 c1) n1 (u8s (if bad = 0 then encR fs else [])) := by
  have K := Lib.hid fun W (hx : Ext w W) => tenc_any A n c fs W (hr.ext hx) hw hn
  have g0 := hb.cell 0
  have g1 := hb.cell 1
  clear hr hw hn
  by_cases h : bad = 0
  · subst h
    simp only [if_true]
    go_enter Tryz.func124, Tryz.ntmps124
    go_wp2_with (go_at_call 164; (with_reducible refine (K.out _ (by exact Ext.rfl' _)).mono ?_); rintro e w1 ⟨A1, c1, rfl, hx1, ho1⟩; have O1 := Lib.hid ho1; clear ho1)
    go_ret2
    exact ⟨A1, _, c1, rfl, hx1, rfl, O1.out⟩
  · have t0 : ((bad : Int) != 0) = true := by simp; exact h
    rw [if_neg h, if_neg h]
    clear h
    go_enter Tryz.func124, Tryz.ntmps124
    go_wp2_with fail
    go_quiet (fail)
    go_wp2_with fail
    go_ret2
    exact ⟨none, 0, 0, rfl, (by repeat (first | with_reducible exact Below.refl _ _ | with_reducible assumption | with_reducible refine ExtD ?_ | with_reducible refine ExtDN ?_ | with_reducible refine ExtA ?_ | (with_reducible refine ExtR ?_ ?_; (first | omega | (dsimp only; omega) | (simp; done) | (simp; omega))) | (with_reducible refine ExtS ?_ ?_; (first | omega | (dsimp only; omega) | (simp; done) | (simp; omega))) | with_reducible refine Ext.tr ?_ (by with_reducible assumption))), rfl, World.ownsRow_nil _ _ _ _⟩
end Go.Proofs.YtjajbbgebblalaaGreatDoor

namespace Go.Proofs.YtjajbbgebblalaaGreatDoor
open Go.RowKit
set_option linter.unusedVariables false
set_option linter.unusedSimpArgs false
/-- The writer at g holds st; all that it made lies above W0. -/
def WS (W0 w : World) (g : Nat) (st : List Fld × Nat) : Prop :=
  ∃ A n c hs, WrB w g A n c st.2 ∧ hs.map (·.1) = st.1 ∧ OwnFs w W0.heap.size A n c hs ∧ Ext W0 w ∧ W0.heap.size ≤ g
theorem WS.x {W0 w : World} {g : Nat} {st : List Fld × Nat} (h : WS W0 w g st) : Ext W0 w := by obtain ⟨_, _, _, _, _, _, _, h, _⟩ := h; exact h
theorem WS.up {W0 w w' : World} {g : Nat} {st : List Fld × Nat} (h : WS W0 w g st) (hx : Ext w w') : WS W0 w' g st := by
  obtain ⟨A, n, c, hs, h1, h2, h3, h4, h5⟩ := h
  exact ⟨A, n, c, hs, BlkE h1 hx, h2, h3.ext' hx, h4.tr hx, h5⟩
theorem WS.mk0 {w w' : World} (hx : Ext w w') (hb : WrB w' w.heap.size none 0 0 0) : WS w w' w.heap.size ([], 0) :=
  ⟨none, 0, 0, [], hb, rfl, ⟨World.ownsRow_nil _ _ _ _, fun h hh => by cases hh⟩, hx, Nat.le_refl _⟩
theorem own_nil8 (w : World) (base : Nat) : w.ownsRow base 5 1 (.slice none 0 0) 0 (u8s []) := World.ownsRow_nil _ _ _ _
theorem ws_add {W0 w w' : World} {g : Nat} {st : List Fld × Nat} {A : Option Addr} {n c : Nat} {hs : List Held} {f : Fld} {Af : Option Addr} {cf : Nat} (hk : Kept st)
    (h1 : WrB w g A n c st.2) (h2 : hs.map (·.1) = st.1) (h3 : OwnFs w W0.heap.size A n c hs) (h4 : Ext W0 w) (h5 : W0.heap.size ≤ g)
    {A' : Option Addr} {n' c' : Nat} {hs' : List Held} (a1 : WrB w' g A' n' c' (addW st f).2) (a2 : hs'.map (·.1) = (addW st f).1) (a3 : hs' = hs ∨ hs' = hs ++ [(f, Af, cf)])
    (a4 : w'.ownsRow W0.heap.size 210 4 (.slice A' n' c') n' (fsCells hs')) (a5 : Turn (g :: blkOf A) w w') (hf : w'.ownsRow W0.heap.size 5 1 (.slice Af f.bytes.length cf) f.bytes.length (u8s f.bytes)) : WS W0 w' g (addW st f) := by
  refine ⟨A', n', c', hs', a1, a2, add_own h3 h1 a5 a4 a3 hf, a5.ext h4 fun r hr => ?_, h5⟩
  rcases List.mem_cons.1 hr with rfl | hr
  · exact h5
  · exact (h3.1.lt r (own_blkOf hr)).1
theorem wx_num {W0 w : World} {g : Nat} {st : List Fld × Nat} (h : WS W0 w g st) (hk : Kept st) (tag : Int) (v : Nat) :
    Calls Tryz.prog 121 #[.pointer (some ⟨g, 0, none⟩), .int .i64 tag, .int .u64 (v : Nat)] w fun e w' => e = .returned (.pointer (some ⟨g, 0, none⟩)) ∧ WS W0 w' g (addW st ⟨tag, false, v, []⟩) := by
  obtain ⟨A, n, c, hs, h1, h2, h3, h4, h5⟩ := h
  have hl : hs.length ≤ 31 := by have := hk.len; rw [← h2, List.length_map] at this; exact this
  refine (wnum_any w W0.heap.size g A n c hs st.2 tag v h1 h3.1 h4.size hl).mono ?_
  rintro e w' ⟨rfl, A', n', c', hs', a1, a2, a3, a4, a5, a6⟩
  rw [h2] at a1 a2
  exact ⟨rfl, ws_add hk h1 h2 h3 h4 h5 a1 a2 a3 a4 a5 (own_nil8 _ _)⟩
theorem wx_text {W0 w : World} {g : Nat} {st : List Fld × Nat} (h : WS W0 w g st) (hk : Kept st) (tag : Int) (l : List UInt8) (B : Option Addr) (cb : Nat) (hB : Rd w B l.length (u8s l)) (hl8 : l.length ≤ 140737488355328) :
    Calls Tryz.prog 122 #[.pointer (some ⟨g, 0, none⟩), .int .i64 tag, .slice B l.length cb] w fun e w' => e = .returned (.pointer (some ⟨g, 0, none⟩)) ∧ WS W0 w' g (addW st ⟨tag, true, 0, l⟩) := by
  obtain ⟨A, n, c, hs, h1, h2, h3, h4, h5⟩ := h
  have hl : hs.length ≤ 31 := by have := hk.len; rw [← h2, List.length_map] at this; exact this
  refine (wtext_any w W0.heap.size g A n c hs st.2 tag l B cb hB hl8 h1 h3.1 h4.size hl).mono ?_
  rintro e w' ⟨rfl, A', n', c', hs', Af, cf, a1, a2, a3, a4, a5, a6, a7⟩
  rw [h2] at a1 a2
  exact ⟨rfl, ws_add hk h1 h2 h3 h4 h5 a1 a2 a3 a4 a5 (own_base a7 h4.size)⟩
theorem wx_done {W0 w : World} {g : Nat} {st : List Fld × Nat} (h : WS W0 w g st) (hk : Kept st) :
    Calls Tryz.prog 124 #[.pointer (some ⟨g, 0, none⟩)] w fun e w' => ∃ A1 c1, e = .returned (.tuple #[.slice A1 (if st.2 = 0 then encR st.1 else []).length c1, .int .i64 ((if st.2 = 0 then encE st.1 else st.2 : Nat) : Int)]) ∧ Ext w w' ∧
      w'.ownsRow w.heap.size 5 1 (.slice A1 (if st.2 = 0 then encR st.1 else []).length c1) (if st.2 = 0 then encR st.1 else []).length (u8s (if st.2 = 0 then encR st.1 else [])) := by
  obtain ⟨A, n, c, hs, h1, h2, h3, h4, h5⟩ := h
  have hfs : FsRd w A n st.1 := by rw [← h2]; exact h3.rd
  have hn : n ≤ maxLen := by
    have := hfs.len; have h2 := hk.len; simp only [maxLen]; omega
  refine (wdone_any w g A n c st.1 st.2 h1 hfs hk.1 hn).mono ?_
  rintro e w' ⟨A1, n1, c1, rfl, hx, rfl, ho⟩
  exact ⟨A1, c1, rfl, hx, ho⟩
theorem bytes_run (s : ByteArray) (w : World) : (convert 9 36 (.string s)).run Tryz.prog w = .ok (.slice (some ⟨w.heap.size, 0, none⟩) s.size (grownCap w s.size 0 5)) (Lib.bytesWorld w 5 s) :=
  Lib.run_convert_string_bytes w _ _ _ s Tryz.underlying9 Tryz.underlying36 Tryz.underlying5
theorem bytes_ext (s : ByteArray) (w : World) : Ext w (Lib.bytesWorld w 5 s) :=
  ⟨rfl, rfl, rfl, by rw [Lib.bytesWorld_size]; omega, fun k hk => Lib.bytesWorld_at_old w _ s k hk⟩
theorem bytes_rd (s : ByteArray) (w : World) : Rd (Lib.bytesWorld w 5 s) (some ⟨w.heap.size, 0, none⟩) s.size (u8s s.data.toList) := by
  have hl : s.data.toList.length = s.size := by rw [Array.length_toList]; rfl
  refine ⟨by rw [u8s_len, hl], fun _ => ⟨_, 0, rfl, fun j u hu => ?_⟩⟩
  have hj : j < s.size := by
    rcases Nat.lt_or_ge j s.size with h | h
    · exact h
    · rw [List.getElem?_eq_none (by rw [u8s_len, hl]; exact h)] at hu; cases hu
  rw [Nat.zero_add, Lib.bytesWorld_cell w _ s j hj]
  unfold u8s at hu
  rw [List.getElem?_map] at hu
  cases h : s.data.toList[j]? with
  | none => rw [h] at hu; cases hu
  | some x =>
    rw [h] at hu
    injection hu with hu
    rw [← hu]
    simp [List.getD, h]
end Go.Proofs.YtjajbbgebblalaaGreatDoor
