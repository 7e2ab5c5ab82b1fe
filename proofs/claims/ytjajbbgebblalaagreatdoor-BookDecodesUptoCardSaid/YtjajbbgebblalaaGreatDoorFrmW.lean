/-
  The walks of frames: Encode, and the reference's.
-/
import Derived.Test.YtjajbbgebblalaaGreatDoorShrT
import Derived.Test.YtjajbbgebblalaaGreatDoorCrcW
import Derived.Test.YtjajbbgebblalaaGreatDoorCrcP
import Derived.Test.YtjajbbgebblalaaGreatDoorHand
import Derived.Deep.RegionHeld3
namespace Go.Proofs.YtjajbbgebblalaaGreatDoor
open Go.RowKit
set_option linter.unusedVariables false
set_option linter.unusedSimpArgs false
theorem own_newG (w : World) (base g : Nat) (cs : Array Value) (t : TypeId) (n : Nat) (hg : w.heap.size = g) (hb : base ≤ g) (hm : n ≤ maxLen) (hs : cs.size = n * 1) : (w.alloc (.cells cs t)).ownsRow base t 1 (.slice (some ⟨g, 0, none⟩) n n) n cs.toList := by
  subst hg
  exact own_new w base cs t n hb hm hs
theorem fhead_snoc (k0 s n : Nat) {i : Nat} (hi : i < 8) : (fhead k0 s n).take (4 + i) ++ [UInt8.ofNat (s / 256 ^ i % 256)] = (fhead k0 s n).take (4 + i + 1) := by
  have hl : 4 + i < (fhead k0 s n).length := by rw [fhead_len]; omega
  rw [List.take_succ_eq_append_getElem hl]
  congr 2
  have : i = 0 ∨ i = 1 ∨ i = 2 ∨ i = 3 ∨ i = 4 ∨ i = 5 ∨ i = 6 ∨ i = 7 := by omega
  rcases this with h | h | h | h | h | h | h | h <;> subst h <;> rfl
def FrR (w : World) (g : Nat) (cs : Array Value) (k0 s n : Nat) (c5 c42 : Value) (wr : World) : Prop :=
  ∃ (i : Nat) (A : Option Addr) (c : Nat), c42 = .int .i64 (i : Nat) ∧ i ≤ 8 ∧ c5 = .slice A (4 + i) c ∧ Ext w wr ∧ Blk wr g 119 cs ∧ wr.ownsRow w.heap.size 5 1 (.slice A (4 + i) c) (4 + i) (u8s ((fhead k0 s n).take (4 + i)))
set_option maxRecDepth 100000 in
set_option maxHeartbeats 4000000 in
theorem fenc_ok (k0 s : Nat) (A : Option Addr) (n c : Nat) (l : List UInt8) (w : World) (hN : Nib w) (hr : Rd w A n (u8s l)) (hk1 : 1 ≤ k0) (hk2 : k0 ≤ 7) (hs : s ≤ 1099511627776) (hn : n ≤ 16384) :
    Calls Tryz.prog 80 #[.agg #[.int .i64 (k0 : Nat), .int .i64 (s : Nat), .slice A n c]] w fun e w' => ∃ A1 c1, e = .returned (.tuple #[.slice A1 (fenc k0 s l).length c1, .int .i64 0]) ∧ Ext w w' ∧ w'.ownsRow w.heap.size 5 1 (.slice A1 (fenc k0 s l).length c1) (fenc k0 s l).length (u8s (fenc k0 s l)) := by
  have hlen : l.length = n := by have := hr.1; rw [u8s_len] at this; exact this
  have Hlen := Lib.hid hlen
  have t1 : decide ((k0 : Int) ≤ 0) = false := by simp; omega
  have t2 : decide ((7 : Int) < (k0 : Int)) = false := by simp; omega
  have t3 : decide ((s : Int) < 0) = false := by simp
  have t4 : decide ((1099511627776 : Int) < (s : Int)) = false := by simp; omega
  have t5 : decide ((16384 : Int) < (n : Int)) = false := by simp; omega
  go_enter Tryz.func80, Tryz.ntmps80
  go_wp2_with fail
  have h4 : u8s ((fhead k0 s n).take 4) = #[Value.int .u8 165, .int .u8 (k0 : Nat), .int .u8 ((n : Int) % 256), .int .u8 ((n : Int) / 256)].toList := by
    have e : (fhead k0 s n).take 4 = [165, UInt8.ofNat k0, UInt8.ofNat (n % 256), UInt8.ofNat (n / 256)] := rfl
    rw [e]
    unfold u8s
    simp only [List.map_cons, List.map_nil]
    rw [toNat_ofNat (by omega), toNat_ofNat (by omega), toNat_ofNat (by omega), show (n : Int) % 256 = ((n % 256 : Nat) : Int) by omega, show (n : Int) / 256 = ((n / 256 : Nat) : Int) by omega]
    rfl
  have H4 := Lib.hid h4
  clear h4 t1 t2 t3 t4 t5
  go_loopw [5, 6, 42] (fun c5 _ c42 wr => FrR w w.heap.size #[.int .i64 (k0 : Nat), .int .i64 (s : Nat), .slice A n c] k0 s n c5 c42 wr) (fun _ _ c42 _ => 8 - (intOf c42).toNat)
  case atStart =>
    refine ⟨0, some ⟨w.heap.size + 1, 0, none⟩, 4, rfl, by omega, rfl, exA, bkA, ?_⟩
    have h5 := own_newG (w.alloc (.cells #[.int .i64 (k0 : Nat), .int .i64 (s : Nat), .slice A n c] 119)) w.heap.size (w.heap.size + 1) #[Value.int .u8 165, .int .u8 (k0 : Nat), .int .u8 ((n : Int) % 256), .int .u8 ((n : Int) / 256)] 5 4 (by simp) (by omega) (by decide) rfl
    rw [← H4.out] at h5
    exact h5
  case round =>
    obtain ⟨i, A1, c1, rfl, hi, rfl, hx, hb, ho⟩ := hrel
    have HX := Lib.hid hx
    have HB := Lib.hid hb
    have HO := Lib.hid ho
    have e1 : wr.cell? ⟨w.heap.size, 1, none⟩ = some (.int .i64 (s : Nat)) := hb.cell 1
    have e2 : wr.cell? ⟨w.heap.size, 2, none⟩ = some (.slice A n c) := hb.cell 2
    clear hx hb ho
    by_cases hlt : i < 8
    · have hst : (fhead k0 s n).take (4 + i) ++ [UInt8.ofNat (s / 256 ^ i % 256)] = (fhead k0 s n).take (4 + i + 1) := fhead_snoc k0 s n hlt
      have HS := Lib.hid hst
      have HQ : Hid (∀ (W : World) g, W.heap.size = g → Rd (W.alloc (.cells #[.int .u8 ((s : Int) / 2 ^ (8 * i) % 256)] 5)) (some ⟨g, 0, none⟩) 1 (u8s [UInt8.ofNat (s / 256 ^ i % 256)])) := Lib.hid fun W g hg => by
        subst hg
        have h1 : ((s : Int) / 2 ^ (8 * i) % 256) = ((s / 256 ^ i % 256 : Nat) : Int) := by
          have : (256 : Nat) ^ i = 2 ^ (8 * i) := by rw [Nat.pow_mul]
          rw [this]; push_cast; rfl
        have h2 : u8s [UInt8.ofNat (s / 256 ^ i % 256)] = #[Value.int .u8 ((s : Int) / 2 ^ (8 * i) % 256)].toList := by
          unfold u8s
          simp only [List.map_cons, List.map_nil]
          rw [toNat_ofNat (by omega), h1]
        rw [h2]
        exact rd_new W _ _
      have HL : Hid (((fhead k0 s n).take (4 + i)).length ≤ 12) := Lib.hid (by rw [List.length_take, fhead_len]; omega)
      clear hst
      go_wp2_with (at_builtin; refine wpB_append rfl (.tmp 45) (.tmp 52) rfl w rfl (own_ext (ExtA (Ext.rfl' _)) HO.out) (ExtA HX.out) rfl (HQ.out _ _ (by simp)) (by have := HL.out; simp only [List.length_singleton]; omega) ?_; intro A6 n6 c6 w6 hx6 hn6 hown6 hk6 hg6)
      go_roundw
      case rel =>
        have hn : n6 = 4 + (i + 1) := by rw [hn6.out, HS.out, List.length_take, fhead_len]; omega
        subst hn
        rw [HS.out] at hown6
        exact ⟨i + 1, A6, c6, by go_num, by omega, rfl, hx6, hk6 _ _ _ (by decide) (BlkA HB.out), hown6⟩
      case measure => simp [intOf]; omega
    · obtain rfl : i = 8 := by omega
      have htk : (fhead k0 s n).take (4 + 8) = fhead k0 s n := List.take_of_length_le (Nat.le_of_eq (fhead_len k0 s n))
      have hO := HO.out
      rw [htk] at hO
      have HO2 := Lib.hid hO
      have HHL : Hid ((fhead k0 s n).length = 12) := Lib.hid rfl
      have KS := Lib.hid fun A2 n2 c2 l2 W (hx : Ext w W) (h : Rd W A2 n2 (u8s l2)) (hb : n2 ≤ maxLen) => sum_any A2 n2 c2 l2 W (hN.ext hx) h hb
      have KF := Lib.hid fun (l2 : List UInt8) W => four_any (csum l2) W (csum_lt l2)
      have HR := Lib.hid fun W (hx : Ext w W) => hr.ext hx
      have HF : Hid (fenc k0 s l = ((fhead k0 s n ++ four (csum (fhead k0 s n))) ++ l) ++ four (csum l)) := Lib.hid (by unfold fenc; rw [hlen]; simp only [List.append_assoc])
      unfold NewB at KF
      clear hO htk HO hr hN
      generalize fhead k0 s n = hd at *
      have hl4 : ∀ x, (four x).length = 4 := four_len
      have HL4 := Lib.hid hl4
      clear hl4 e1 hlen
      go_wp2_with (first
        | (go_at_call 119; (with_reducible refine (KS.out A1 _ c1 hd _ HX.out (rd_own HO2.out) (by decide)).mono ?_); rintro e w5 ⟨rfl, hx5⟩)
        | (go_at_call 118; (with_reducible refine (KF.out hd _).mono ?_); rintro e w6 ⟨A6, c6, rfl, hx6, ho6⟩; have hX6 : Ext w w6 := (HX.out.tr hx5).tr hx6)
        | (at_builtin; refine wpB_append rfl (.tmp 55) (.tmp 58) rfl w rfl (own_ext (hx5.tr hx6) HO2.out) hX6 rfl (rd_own ho6) (by have := HHL.out; have := HL4.out (csum hd); omega) ?_; intro A7 n7 c7 w7 hx7 hn7 hown7 hk7 hg7; have b7 := hk7 _ _ _ (by decide) (BlkE HB.out (hx5.tr hx6)); have f2 : w7.cell? ⟨w.heap.size, 2, none⟩ = some (.slice A n c) := b7.cell 2)
        | (at_builtin; refine wpB_append rfl (.tmp 60) (.tmp 62) rfl w rfl hown7 hx7 rfl (HR.out _ hx7) (by have := HHL.out; have := HL4.out (csum hd); have := Hlen.out; simp only [List.length_append]; omega) ?_; intro A8 n8 c8 w8 hx8 hn8 hown8 hk8 hg8; have b8 := hk8 _ _ _ (by decide) b7; have g2 : w8.cell? ⟨w.heap.size, 2, none⟩ = some (.slice A n c) := b8.cell 2)
        | (go_at_call 119; (with_reducible refine (KS.out A n c l _ hx8 (HR.out _ hx8) (by simp only [maxLen]; omega)).mono ?_); rintro e w9 ⟨rfl, hx9⟩)
        | (go_at_call 118; (with_reducible refine (KF.out l _).mono ?_); rintro e wa ⟨Aa, ca, rfl, hxa, hoa⟩; have hXa : Ext w wa := (hx8.tr hx9).tr hxa)
        | (at_builtin; refine wpB_append rfl (.tmp 64) (.tmp 68) rfl w rfl (own_ext (hx9.tr hxa) hown8) hXa rfl (rd_own hoa) (by have := HHL.out; have := HL4.out (csum hd); have := HL4.out (csum l); have := Hlen.out; simp only [List.length_append]; omega) ?_; intro Ab nb cb wb hxb hnb hownb hkb hgb))
      go_ret2
      rw [hnb.out] at hownb ⊢
      rw [HF.out]
      exact ⟨Ab, cb, rfl, hxb, hownb⟩
def HdR (w : World) (k0 s n : Nat) (c2 c7 c8 : Value) (wr : World) : Prop :=
  ∃ (i : Nat) (A : Option Addr) (c : Nat), c8 = .int .i64 (i : Nat) ∧ i ≤ 8 ∧ c2 = .int .i64 (s / 256 ^ i : Nat) ∧ c7 = .slice A (4 + i) c ∧ Ext w wr ∧ wr.ownsRow w.heap.size 5 1 (.slice A (4 + i) c) (4 + i) (u8s ((fhead k0 s n).take (4 + i)))
set_option maxRecDepth 100000 in
set_option maxHeartbeats 4000000 in
theorem rhead_any (k0 n s : Nat) (w : World) (hk1 : 1 ≤ k0) (hk2 : k0 ≤ 7) (hs : s ≤ 1099511627776) (hn : n ≤ 16384) :
    Calls Tryz.prog 105 #[.int .i64 (k0 : Nat), .int .i64 (n : Nat), .int .i64 (s : Nat)] w (NewB w (fhead k0 s n ++ four (csum (fhead k0 s n)))) := by
  unfold NewB
  go_enter Tryz.func105, Tryz.ntmps105
  go_wp2_with fail
  have h4 : u8s ((fhead k0 s n).take 4) = #[Value.int .u8 165, .int .u8 (k0 : Nat), .int .u8 ((n : Int) % 256), .int .u8 ((n : Int) / 256)].toList := by
    have e : (fhead k0 s n).take 4 = [165, UInt8.ofNat k0, UInt8.ofNat (n % 256), UInt8.ofNat (n / 256)] := rfl
    rw [e]
    unfold u8s
    simp only [List.map_cons, List.map_nil]
    rw [toNat_ofNat (by omega), toNat_ofNat (by omega), toNat_ofNat (by omega), show (n : Int) % 256 = ((n % 256 : Nat) : Int) by omega, show (n : Int) / 256 = ((n / 256 : Nat) : Int) by omega]
    rfl
  have H4 := Lib.hid h4
  clear h4
  go_loopw [2, 7, 8] (fun c2 c7 c8 wr => HdR w k0 s n c2 c7 c8 wr) (fun _ _ c8 _ => 8 - (intOf c8).toNat)
  case atStart =>
    refine ⟨0, some ⟨w.heap.size, 0, none⟩, 4, rfl, by omega, by simp, rfl, exA, ?_⟩
    have h5 := own_newG w w.heap.size w.heap.size #[Value.int .u8 165, .int .u8 (k0 : Nat), .int .u8 ((n : Int) % 256), .int .u8 ((n : Int) / 256)] 5 4 rfl (Nat.le_refl _) (by decide) rfl
    rw [← H4.out] at h5
    exact h5
  case round =>
    obtain ⟨i, A1, c1, rfl, hi, rfl, rfl, hx, ho⟩ := hrel
    have HX := Lib.hid hx
    have HO := Lib.hid ho
    clear hx ho
    by_cases hlt : i < 8
    · have hst : (fhead k0 s n).take (4 + i) ++ [UInt8.ofNat (s / 256 ^ i % 256)] = (fhead k0 s n).take (4 + i + 1) := fhead_snoc k0 s n hlt
      have HS := Lib.hid hst
      have hd : s / 256 ^ (i + 1) = s / 256 ^ i / 256 := by rw [Nat.pow_succ, Nat.div_div_eq_div_mul]
      have HD := Lib.hid hd
      have hsz : s / 256 ^ i ≤ s := Nat.div_le_self _ _
      clear hst hd
      generalize s / 256 ^ i = z at *
      have HQ : Hid (∀ (W : World) g, W.heap.size = g → Rd (W.alloc (.cells #[.int .u8 ((z : Int) % 256)] 5)) (some ⟨g, 0, none⟩) 1 (u8s [UInt8.ofNat (z % 256)])) := Lib.hid fun W g hg => by
        subst hg
        have h2 : u8s [UInt8.ofNat (z % 256)] = #[Value.int .u8 ((z : Int) % 256)].toList := by
          unfold u8s
          simp only [List.map_cons, List.map_nil]
          rw [toNat_ofNat (by omega), show (z : Int) % 256 = ((z % 256 : Nat) : Int) by omega]
        rw [h2]
        exact rd_new W _ _
      have HL : Hid (((fhead k0 s n).take (4 + i)).length ≤ 12) := Lib.hid (by rw [List.length_take, fhead_len]; omega)
      go_wp2_with (at_builtin; refine wpB_append rfl (.tmp 22) (.tmp 26) rfl w rfl (own_ext (ExtA (Ext.rfl' _)) HO.out) (ExtA HX.out) rfl (HQ.out _ _ (by simp)) (by have := HL.out; simp only [List.length_singleton]; omega) ?_; intro A6 n6 c6 w6 hx6 hn6 hown6 hk6 hg6)
      go_roundw
      case rel =>
        have hn : n6 = 4 + (i + 1) := by rw [hn6.out, HS.out, List.length_take, fhead_len]; omega
        subst hn
        rw [HS.out] at hown6
        exact ⟨i + 1, A6, c6, by go_num, by omega, by rw [HD.out]; go_num, rfl, hx6, hown6⟩
      case measure => simp [intOf]; omega
    · obtain rfl : i = 8 := by omega
      have htk : (fhead k0 s n).take (4 + 8) = fhead k0 s n := List.take_of_length_le (Nat.le_of_eq (fhead_len k0 s n))
      have hO := HO.out
      rw [htk] at hO
      have HO2 := Lib.hid hO
      have HHL : Hid ((fhead k0 s n).length = 12) := Lib.hid rfl
      have KS := Lib.hid fun A2 n2 c2 l2 W (h : Rd W A2 n2 (u8s l2)) (hb : n2 ≤ maxLen) => rsum_any A2 n2 c2 l2 W h hb
      have KF := Lib.hid fun (l2 : List UInt8) W => rfour_any (csum l2) W (csum_lt l2)
      have HL4 : Hid (∀ x, (four x).length = 4) := Lib.hid four_len
      unfold NewB at KF
      clear hO htk HO
      generalize hhd : fhead k0 s n = hd at *
      have HHd := Lib.hid hhd
      clear hhd
      go_wp2_with (first
        | (go_at_call 107; (with_reducible refine (KS.out A1 _ c1 hd _ (rd_own HO2.out) (by decide)).mono ?_); rintro e w5 ⟨rfl, hx5⟩)
        | (go_at_call 106; (with_reducible refine (KF.out hd _).mono ?_); rintro e w6 ⟨A6, c6, rfl, hx6, ho6⟩; have hX6 : Ext w w6 := (HX.out.tr hx5).tr hx6)
        | (at_builtin; refine wpB_append rfl (.tmp 30) (.tmp 33) rfl w rfl (own_ext (hx5.tr hx6) HO2.out) hX6 rfl (rd_own ho6) (by have := HHL.out; have := HL4.out (csum hd); omega) ?_; intro A7 n7 c7 w7 hx7 hn7 hown7 hk7 hg7))
      go_ret
      rw [hn7.out] at hown7 ⊢
      rw [HHd.out]
      exact ⟨A7, c7, rfl, hx7, hown7⟩
section
variable {w : World}
theorem step_appendBf {ops : Array Oper} {o : Oper} {a : Act} {K : Act → World → Prop} {Q : Exit → Act → World → Prop} {E : Prop} (hgd : o.guard = none) (d : Option Tmp) (hd : o.dst = d) (s x : Operand)
    (ho : o.op = .call { callee := .builtin .append, args := #[s, x], argTypes := #[36, 36] }) (W : World)
    {A0 : Option Addr} {n0 c0 : Nat} {l : List UInt8} (hs : a.eval s = .slice A0 n0 c0) (hown : w.ownsRow W.heap.size 5 1 (.slice A0 n0 c0) n0 (u8s l)) (hW : Ext W w)
    {A : Option Addr} {m c : Nat} {news : List UInt8} (hx : a.eval x = .slice A m c) (hr : Rd w A m (u8s news)) (hb : l.length + news.length ≤ 140737488355328)
    (hK : ∀ A' n' c' w', Ext W w' → Hid (n' = (l ++ news).length) → w'.ownsRow W.heap.size 5 1 (.slice A' n' c') n' (u8s (l ++ news)) → K (a.put d (.slice A' n' c')) w') :
    if Region.wanted o (yielded ops a.tmps) = true then Oper.wp Tryz.prog o a w K Q else E := by
  subst hd
  have hw : Region.wanted o (yielded ops a.tmps) = true := by simp [Region.wanted, hgd]
  rw [if_pos hw]
  have e1 : n0 = l.length := own_len hown
  have e2 : news.length = m := by have := hr.1; rw [u8s_len] at this; exact this
  obtain ⟨v', w', hrun, r1, r2, _⟩ := run_append_rd (P := Tryz.prog) W.heap.size 36 o.type 5 _ 1 1 Tryz.underlying36 el_u8 _ n0 _ hown A m c _ hr.toN (one_u8 _) (by simp only [maxLen]; omega) (by omega) hW.size
  obtain ⟨A', c', rfl⟩ := own_slice r1
  unfold Oper.wp
  simp [execOp, ho, resolve, invoke, builtin, hs, hx, hrun, Result.andThen]
  exact hK A' _ c' w' (Ext.grown hW r2 fun g hg' => own_lt hown g hg') (Lib.hid (by rw [List.length_append]; omega)) (by rw [u8s_app]; exact r1)
end
set_option maxRecDepth 100000 in
set_option maxHeartbeats 4000000 in
theorem rfenc_ok (k0 s : Nat) (A : Option Addr) (n c : Nat) (l : List UInt8) (w : World) (hr : Rd w A n (u8s l)) (hk1 : 1 ≤ k0) (hk2 : k0 ≤ 7) (hs : s ≤ 1099511627776) (hn : n ≤ 16384) :
    Calls Tryz.prog 55 #[.agg #[.int .i64 (k0 : Nat), .int .i64 (s : Nat), .slice A n c]] w fun e w' => ∃ A1 c1, e = .returned (.tuple #[.slice A1 (fenc k0 s l).length c1, .int .i64 0]) ∧ Ext w w' ∧ w'.ownsRow w.heap.size 5 1 (.slice A1 (fenc k0 s l).length c1) (fenc k0 s l).length (u8s (fenc k0 s l)) := by
  have hlen : l.length = n := by have := hr.1; rw [u8s_len] at this; exact this
  have t1 : decide ((k0 : Int) < 1) = false := by simp; omega
  have t2 : decide ((7 : Int) < (k0 : Int)) = false := by simp; omega
  have t3 : decide ((s : Int) < 0) = false := by simp
  have t4 : decide ((1099511627776 : Int) < (s : Int)) = false := by simp; omega
  have t5 : decide ((16384 : Int) < (n : Int)) = false := by simp; omega
  have KH := Lib.hid fun W => rhead_any k0 n s W hk1 hk2 hs hn
  have KS := Lib.hid fun A2 n2 c2 l2 W (h : Rd W A2 n2 (u8s l2)) (hb : n2 ≤ maxLen) => rsum_any A2 n2 c2 l2 W h hb
  have KF := Lib.hid fun (l2 : List UInt8) W => rfour_any (csum l2) W (csum_lt l2)
  have HR := Lib.hid fun W (hx : Ext w W) => hr.ext hx
  have HF : Hid (fenc k0 s l = ((fhead k0 s n ++ four (csum (fhead k0 s n))) ++ l) ++ four (csum l)) := Lib.hid (by unfold fenc; rw [hlen]; simp only [List.append_assoc])
  have HHL : Hid ((fhead k0 s n ++ four (csum (fhead k0 s n))).length = 16) := Lib.hid rfl
  have HL4 : Hid (∀ x, (four x).length = 4) := Lib.hid four_len
  have Hlen := Lib.hid hlen
  have KH2 : Hid (∀ W, Calls Tryz.prog 105 #[.int .i64 (k0 : Nat), .int .i64 (n : Nat), .int .i64 (s : Nat)] W (NewB W (fhead k0 s n ++ four (csum (fhead k0 s n))))) := KH
  unfold NewB at KF KH2
  clear hlen hr KH
  generalize fhead k0 s n ++ four (csum (fhead k0 s n)) = hd at *
  go_enter Tryz.func55, Tryz.ntmps55
  go_wp2_with fail
  clear t1 t2 t3 t4 t5
  have b0 : Blk (w.alloc (.cells #[.int .i64 (k0 : Nat), .int .i64 (s : Nat), .slice A n c] 119)) w.heap.size 119 #[.int .i64 (k0 : Nat), .int .i64 (s : Nat), .slice A n c] := BlkN rfl
  have hx0 : Ext w (w.alloc (.cells #[.int .i64 (k0 : Nat), .int .i64 (s : Nat), .slice A n c] 119)) := exA
  generalize w.alloc (.cells #[.int .i64 (k0 : Nat), .int .i64 (s : Nat), .slice A n c] 119) = w0 at *
  have HS := Lib.hid fun (w' : World) (h : Ext w0 w') => (⟨(BlkE b0 h).cell 0, (BlkE b0 h).cell 1, (BlkE b0 h).cell 2⟩ : (fun w' : World => w'.cell? ⟨w.heap.size, 0, none⟩ = some (.int .i64 (k0 : Nat)) ∧ w'.cell? ⟨w.heap.size, 1, none⟩ = some (.int .i64 (s : Nat)) ∧ w'.cell? ⟨w.heap.size, 2, none⟩ = some (.slice A n c)) w')
  go_region_held3 (fun w' : World => w'.cell? ⟨w.heap.size, 0, none⟩ = some (.int .i64 (k0 : Nat)) ∧ w'.cell? ⟨w.heap.size, 1, none⟩ = some (.int .i64 (s : Nat)) ∧ w'.cell? ⟨w.heap.size, 2, none⟩ = some (.slice A n c)) (exact HS.out _ exA)
    (first
      | (go_at_call 105; (with_reducible refine (KH2.out _).mono ?_); rintro e x1 ⟨B1, d1, rfl, hy1, ho1⟩; have hX1 : Ext w0 x1 := exA)
      | (refine step_appendBf rfl (some 37) rfl (.tmp 34) (.tmp 36) rfl w0 (by rfl) (own_base ho1 (Nat.le_refl _)) hX1 (by rfl) (HR.out _ (hx0.tr hX1)) (by have := HHL.out; have := Hlen.out; omega) ?_; intro A3 n3 c3 x3 hx3 hn3 ho3))
  have g2 : x3.cell? ⟨w.heap.size, 2, none⟩ = some (.slice A n c) := (BlkE b0 hx3).cell 2
  go_wp2_with (first
    | (go_at_call 107; (with_reducible refine (KS.out A n c l _ (HR.out _ (hx0.tr hx3)) (by simp only [maxLen]; omega)).mono ?_); rintro e w5 ⟨rfl, hx5⟩)
    | (go_at_call 106; (with_reducible refine (KF.out l _).mono ?_); rintro e w6 ⟨A6, c6, rfl, hx6, ho6⟩; have hX6 : Ext w0 w6 := (hx3.tr hx5).tr hx6)
    | (at_builtin; refine wpB_append rfl (.tmp 38) (.tmp 42) rfl w0 rfl (own_ext (hx5.tr hx6) ho3) hX6 rfl (rd_own ho6) (by have := HHL.out; have := HL4.out (csum l); have := Hlen.out; simp only [List.length_append]; omega) ?_; intro A7 n7 c7 w7 hx7 hn7 hown7 hk7 hg7))
  go_ret2
  rw [hn7.out] at hown7 ⊢
  rw [HF.out]
  exact ⟨A7, c7, rfl, hx0.tr hx7, own_base hown7 hx0.size⟩
end Go.Proofs.YtjajbbgebblalaaGreatDoor
