/-
  The walk of SimfsRuns.
-/
import Derived.Test.YtdoaniimfhpjhaaRfK
import Derived.Test.YtdoaniimfhpjhaaFsL
namespace Go.Proofs.Ytdoaniimfhpjhaa
open Go.RowKit
set_option linter.unusedVariables false
set_option linter.unusedSimpArgs false
open Go.Maps
theorem hv_lt {w : World} {B n c : Nat} {A : Option Addr} {hs : List HV} (h : OwnFl w B A n c hs) {r : Nat} (hr : hvB A hs r) : r < w.heap.size := by
  have aux : ∀ {A : Option Addr} {n c s : Nat} {e : TypeId} {xs : List Value}, w.ownsRow B e s (.slice A n c) n xs → A.map (·.block) = some r → r < w.heap.size := fun {A n c s e xs} ho ha => by
    cases A with
    | none => cases ha
    | some a => exact (ho.lt r (by simpa [Value.ownBlock] using ha)).2
  rcases hr with hr | ⟨x, hx, hr⟩
  · exact aux h.1 hr
  · exact aux (h.2 x hx) hr
theorem OwnFl.turn_ {w w' : World} {F : List Nat} {B n c : Nat} {A : Option Addr} {hs : List HV} (h : OwnFl w B A n c hs) (ht : Turn F w w') (hn : ∀ r, hvB A hs r → r ∉ F) : OwnFl w' B A n c hs := by
  have aux : ∀ {A : Option Addr} {n c s : Nat} {e : TypeId} {xs : List Value}, w.ownsRow B e s (.slice A n c) n xs → (∀ r, A.map (·.block) = some r → r ∉ F) → w'.ownsRow B e s (.slice A n c) n xs := fun {A n c s e xs} ho ha => ht.own ho fun r hr => ha r (by
    cases A with
    | none => cases hr
    | some a => simpa [Value.ownBlock] using hr)
  exact ⟨aux h.1 fun r hr => hn r (.inl hr), fun x hx => aux (h.2 x hx) fun r hr => hn r (.inr ⟨x, hx, hr⟩)⟩
theorem img_new (room : Int) : imgL (newD room) = [] := by unfold imgL sortF newD; simp
theorem hv_nil {F : List Nat} : ∀ r, hvB none [] r → r ∉ F := fun r hr => by
  rcases hr with hr | ⟨x, hx, _⟩
  · cases hr
  · cases hx
theorem turn_row {w : World} {g : Nat} {ds : Array Value} : Turn [g] w (w.setRow g ds) :=
  ⟨rfl, rfl, rfl, by simp [World.setRow], fun k _ hn => by
    simp only [World.setRow, Array.getElem?_modify]
    rw [if_neg (fun e => hn (by simp [e]))]⟩
theorem own_max {w : World} {base n c : Nat} {A : Option Addr} {xs : List Value} (h : w.ownsRow base 5 1 (.slice A n c) n xs) : n ≤ maxLen := by
  rcases h.2 with ⟨h1, h2⟩ | ⟨g, cap, cur, h1, _, _, h2, h3, _⟩
  · simp only [maxLen]; omega
  · injection h1 with _ _ h4
    omega
def RunR (W : World) (g b g6 : Nat) (c32 : Value) (wr : World) : Prop :=
  ∃ (k : Nat) (d : Dk) (D : DataW Value) (hs : List HF) (A : Option Addr) (n c : Nat) (hv : List HV), c32 = .int .i64 k ∧ DkInv d ∧ d.steps ≤ (k : Nat) ∧ FsX W wr g d b D hs ∧ hv.map (·.1) = imgL d ∧ OwnFl wr W.heap.size A n c hv ∧ (∀ r, hvB A hv r → r ∉ foot g b hs) ∧ g6 ∉ foot g b hs ∧ W.heap.size ≤ g6 ∧
    Blk wr g6 28 #[.slice A n c, .int .i64 d.room, .int .i64 d.fuse, .bool d.down, .int .i64 d.steps, .int .i64 d.read]
set_option maxRecDepth 100000 in
set_option maxHeartbeats 8000000 in
theorem simfsRuns_walk (room : Int) (A0 : Option Addr) (c0 : Nat) (ops : List HO) (w : World) (hroom : IsI64 room) (hr : OpsRd w A0 ops) (hl : ops.length * 104 ≤ 140737488351232) :
    Calls Try.prog 3 #[.int .i64 room, .slice A0 ops.length c0] w fun e w' => e = .returned (.bool true) ∧ Ext w w' := by
  have KH := Lib.hid head_any
  have KN := Lib.hid (newK room)
  have KR := Lib.hid (rnew_any room)
  have hal := alloc_op
  have hdk := dk_zero
  have Hr := Lib.hid hr
  clear hr
  go_enter Try.func3, Try.ntmps3
  go_upto_region 5 with (first
    | (go_at_call 5; (with_reducible refine (KH.out _).mono ?_); rintro e w1 ⟨rfl, hx1⟩)
    | (go_at_call 6; (with_reducible refine (KN.out _).mono ?_); rintro e w2 ⟨g, b, rfl, hX2⟩)
    | (go_at_call 7; (with_reducible refine (KR.out _).mono ?_); rintro e w3 ⟨rfl, hx3⟩)
    | (change wpList _ _ _ (⟨none, .store _ (.tmp 6) _, _, _, _, _⟩ :: _) _ _; refine wpL_store_new rfl 28 (.tmp 6) (.tmp 21) rfl w3.heap.size 28 #[.slice none 0 0, .int .i64 0, .int .i64 0, .bool false, .int .i64 0, .int .i64 0] #[.slice none 0 0, .int .i64 (min (max 0 room) 67108864), .int .i64 0, .bool false, .int .i64 0, .int .i64 0] rfl rfl rfl rfl (dk_one _ _ _ _ _ _ _ _) 6 disk_wide rfl ?_))
  obtain ⟨W4, hW4⟩ : ∃ W4, W4 = w3.alloc (.cells #[.slice none 0 0, .int .i64 (min (max 0 room) 67108864), .int .i64 0, .bool false, .int .i64 0, .int .i64 0] 28) := ⟨_, rfl⟩
  have hxw2 : Ext w w2 := hx1.tr hX2.ext
  have hX4 : FsX w W4 g (newD room) b (.map []) [] := by rw [hW4]; exact ((hX2.ext_ hx3).ext_ (ExtA (Ext.rfl' w3))).low hx1
  have b6 : Blk W4 w3.heap.size 28 #[.slice none 0 0, .int .i64 (min (max 0 room) 67108864), .int .i64 0, .bool false, .int .i64 0, .int .i64 0] := by rw [hW4]; exact BlkN rfl
  have hg6 : w3.heap.size ∉ foot g b [] := fun hc => by have := (hX2.ext_ hx3).lt _ hc; omega
  have hg6w : w.heap.size ≤ w3.heap.size := (hxw2.tr hx3).size
  rw [← hW4]
  have KT : Hid (Calls Try.prog 8 #[.pointer (some ⟨g, 0, none⟩), .agg #[.slice none 0 0, .int .i64 (min (max 0 room) 67108864), .int .i64 0, .bool false, .int .i64 0, .int .i64 0]] W4 fun e w' => e = .returned (.bool true) ∧ Ext W4 w') := Lib.hid (told_any hX4 (inv_new room) none 0 0 (by rw [img_new]; exact (OwnFl.nil_ W4 0).rd))
  have k0 := b6.cell 0
  have k1 := b6.cell 1
  have k2 := b6.cell 2
  have k3 := b6.cell 3
  have k4 := b6.cell 4
  have k5 := b6.cell 5
  generalize w3.heap.size = g6 at *
  clear hW4 hx1 hX2 hx3 hxw2 KH KN KR
  go_wp2_with (first | (go_at_call 8; (with_reducible refine (KT.out).mono ?_); rintro e w5 ⟨rfl, hx5⟩))
  go_loopw [32] (fun c32 wr => RunR w g b g6 c32 wr) (fun c32 _ => ops.length - (intOf c32).toNat)
  case atStart => exact ⟨0, newD room, _, [], none, 0, 0, [], rfl, inv_new room, by simp [newD], hX4.ext_ hx5, (img_new room).symm, OwnFl.nil_ _ _, hv_nil, hg6, hg6w, BlkE b6 hx5⟩
  case round =>
    obtain ⟨k, d, D, hs, A, n, c, hv, rfl, hI, hst, hX, hmap, hown, hoff, hg6f, _, hb6⟩ := hrel
    by_cases hlt : k < ops.length
    · obtain ⟨ob, oo, o, rfl, hok, hc, ho⟩ := op_at Hr.out hlt
      have Hc := Lib.hid (range_ext hc hX.ext)
      have hst2 : d.steps ≤ 4611686018427387904 := by omega
      have hwz := hX.ext.size
      have KD := Lib.hid fun W (hx : Ext wr W) => do_any hI o A n c w.heap.size hv hmap W (hown.ext hx) (Nat.le_trans hwz hx.size) hst2 (ho.ext (hX.ext.tr hx))
      have KC := Lib.hid fun (W : World) (h : FsX w W g d b D hs) => call_any w W g b d D hs o h hI hst2 (ho.ext h.ext)
      have i1 := inv_call hI o.1 ho.2.2.2.1
      have s1 := (callD_steps d o.1).2
      obtain ⟨d1, l1, n1, E1, hc1⟩ : ∃ d1 l1 n1 E1, callD d o.1 = (d1, l1, n1, E1) := ⟨_, _, _, _, rfl⟩
      rw [hc1] at KD KC i1 s1
      unfold DoPost at KD
      unfold CallPost at KC
      dsimp only at KD KC i1 s1
      obtain ⟨a1, ha1⟩ : ∃ a1, a1 = l1.length := ⟨_, rfl⟩
      rw [← ha1] at KD KC
      have KT2 := Lib.hid fun W D5 hs5 (h : FsX w W g d1 b D5 hs5) A9 n9 c9 (hr : FlRd W A9 n9 (imgL d1)) => told_any h i1 A9 n9 c9 hr
      have HX := Lib.hid hX
      have HI1 := Lib.hid i1
      have hs1k : d1.steps ≤ (k + 1 : Nat) := by omega
      have Hoff := Lib.hid hoff
      have Hown := Lib.hid hown
      have Hmap := Lib.hid hmap
      have B6 := Lib.hid hb6
      have G6 := Lib.hid hg6f
      have hg6r : g6 < wr.heap.size := hb6.lt
      have x1 : ((n1 : Int) != n1) = false := by simp
      have x2 : ((E1 : Int) != E1) = false := by simp
      have Ha1 := Lib.hid ha1
      have hgr : wr.heap.size ∉ foot g b hs := fun hc => by have := HX.out.lt _ hc; omega
      clear hc hok hI hX hmap hown hoff hb6 hg6f ho hc1 i1 ha1 hst hst2 KT k0 k1 k2 k3 k4 k5
      go_upto_region 10 with (first
        | (change wpList _ _ _ (⟨some 35, _, _, _, _, _⟩ :: _) _ _; refine wpL_load_op rfl (.tmp 34) rfl ob (oo + k * 7) rfl o Hc.out ?_)
        | (change wpList _ _ _ (⟨none, .store _ (.tmp 8) _, _, _, _, _⟩ :: _) _ _; refine wpL_store_new rfl 34 (.tmp 8) (.tmp 35) rfl wr.heap.size 34 (opcells noOp) (opcells o) rfl rfl rfl rfl (opcells_one o) 7 op_wide rfl ?_))
      have bo : Blk (wr.alloc (.cells (opcells o) 34)) wr.heap.size 34 (opcells o) := BlkN rfl
      have b60 : Blk (wr.alloc (.cells (opcells o) 34)) g6 28 _ := BlkA B6.out
      have hx0 : Ext wr (wr.alloc (.cells (opcells o) 34)) := ExtA (Ext.rfl' _)
      generalize hW0 : wr.alloc (.cells (opcells o) 34) = W0 at *
      have hz0 : W0.heap.size = wr.heap.size + 1 := by rw [← hW0]; simp
      have HZ0 := Lib.hid hz0
      clear hW0 hz0
      generalize hgo : wr.heap.size = go at *
      have HGO := Lib.hid hgo
      clear hgo
      go_upto_region 11 with (first
        | (change wpList _ _ _ (⟨some 37, _, _, _, _, _⟩ :: _) _ _; refine wpL_load_row (o := ⟨some 37, _, _, _, _, _⟩) rfl 28 (.tmp 6) rfl g6 28 _ 6 rfl b60 disk_wide rfl ?_)
        | (change wpList _ _ _ (⟨some 38, _, _, _, _, _⟩ :: _) _ _; refine wpL_load_row (o := ⟨some 38, _, _, _, _, _⟩) rfl 34 (.tmp 8) rfl go 34 (opcells o) 7 rfl bo op_wide rfl ?_)
        | (go_at_call 9; go_loud ((with_reducible refine (KD.out _ hx0).mono ?_); rintro e W1 ⟨A9, n9, c9, hv9, Ab, cb, rfl, hm9, hx9, ho9, hb9, hbb9⟩))
        | (change wpList _ _ _ (⟨none, .store _ (.tmp 9) _, _, _, _, _⟩ :: _) _ _; refine wpL_store_new rfl 28 (.tmp 9) (.tmp 40) rfl W1.heap.size 28 #[.slice none 0 0, .int .i64 0, .int .i64 0, .bool false, .int .i64 0, .int .i64 0] #[.slice A9 n9 c9, .int .i64 d1.room, .int .i64 d1.fuse, .bool d1.down, .int .i64 d1.steps, .int .i64 d1.read] rfl rfl rfl rfl (dk_one _ _ _ _ _ _ _ _) 6 disk_wide rfl ?_))
      have b9 : Blk (W1.alloc (.cells #[.slice A9 n9 c9, .int .i64 d1.room, .int .i64 d1.fuse, .bool d1.down, .int .i64 d1.steps, .int .i64 d1.read] 28)) W1.heap.size 28 #[.slice A9 n9 c9, .int .i64 d1.room, .int .i64 d1.fuse, .bool d1.down, .int .i64 d1.steps, .int .i64 d1.read] := BlkN rfl
      have b62 : Blk (W1.alloc (.cells #[.slice A9 n9 c9, .int .i64 d1.room, .int .i64 d1.fuse, .bool d1.down, .int .i64 d1.steps, .int .i64 d1.read] 28)) g6 28 _ := BlkA (BlkE b60 hx9)
      have bo2 : Blk (W1.alloc (.cells #[.slice A9 n9 c9, .int .i64 d1.room, .int .i64 d1.fuse, .bool d1.down, .int .i64 d1.steps, .int .i64 d1.read] 28)) go 34 (opcells o) := BlkA (BlkE bo hx9)
      have hx2 : Ext wr (W1.alloc (.cells #[.slice A9 n9 c9, .int .i64 d1.room, .int .i64 d1.fuse, .bool d1.down, .int .i64 d1.steps, .int .i64 d1.read] 28)) := ExtA (hx0.tr hx9)
      have ho2 : OwnFl (W1.alloc (.cells #[.slice A9 n9 c9, .int .i64 d1.room, .int .i64 d1.fuse, .bool d1.down, .int .i64 d1.steps, .int .i64 d1.read] 28)) w.heap.size A9 n9 c9 hv9 := ho9.ext (ExtA (Ext.rfl' _))
      have hbb2 : (W1.alloc (.cells #[.slice A9 n9 c9, .int .i64 d1.room, .int .i64 d1.fuse, .bool d1.down, .int .i64 d1.steps, .int .i64 d1.read] 28)).ownsRow W0.heap.size 5 1 (.slice Ab a1 cb) a1 (u8s l1) := own_ext (ExtA (Ext.rfl' _)) hbb9
      generalize W1.heap.size = g9 at *
      generalize W1.alloc (.cells #[.slice A9 n9 c9, .int .i64 d1.room, .int .i64 d1.fuse, .bool d1.down, .int .i64 d1.steps, .int .i64 d1.read] 28) = W2 at *
      have hz02 : W0.heap.size ≤ W2.heap.size := by have h1 := hx2.size; have h2 := bo2.lt; have h3 := HZ0.out; omega
      clear b60 bo hx0 hx9 ho9 hbb9
      go_upto_region 12 with (first
        | (change wpList _ _ _ (⟨some 44, _, _, _, _, _⟩ :: _) _ _; refine wpL_load_row (o := ⟨some 44, _, _, _, _, _⟩) rfl 28 (.tmp 9) rfl g9 28 _ 6 rfl b9 disk_wide rfl ?_)
        | (change wpList _ _ _ (⟨none, .store _ (.tmp 6) _, _, _, _, _⟩ :: _) _ _; refine wpL_store_row rfl 28 (.tmp 6) (.tmp 44) rfl g6 28 _ _ rfl rfl b62 rfl (dk_one _ _ _ _ _ _ _ _) 6 disk_wide rfl ?_))
      have hX3 : FsX w (W2.setRow g6 #[.slice A9 n9 c9, .int .i64 d1.room, .int .i64 d1.fuse, .bool d1.down, .int .i64 d1.steps, .int .i64 d1.read]) g d b D hs := (HX.out.ext_ hx2).keep turn_row (fun r hr => by simp only [List.mem_singleton] at hr; subst hr; exact G6.out) (fun r hr => by simp only [List.mem_singleton] at hr; omega)
      have ho3 : OwnFl (W2.setRow g6 #[.slice A9 n9 c9, .int .i64 d1.room, .int .i64 d1.fuse, .bool d1.down, .int .i64 d1.steps, .int .i64 d1.read]) w.heap.size A9 n9 c9 hv9 := dofl_row b62 ho2
      have hbb3 := own_setRT (ds := #[.slice A9 n9 c9, .int .i64 d1.room, .int .i64 d1.fuse, .bool d1.down, .int .i64 d1.steps, .int .i64 d1.read]) hbb2 b62 (by decide)
      have b63 : Blk (W2.setRow g6 #[.slice A9 n9 c9, .int .i64 d1.room, .int .i64 d1.fuse, .bool d1.down, .int .i64 d1.steps, .int .i64 d1.read]) g6 28 #[.slice A9 n9 c9, .int .i64 d1.room, .int .i64 d1.fuse, .bool d1.down, .int .i64 d1.steps, .int .i64 d1.read] := Blk.setRow_ b62
      have bo3 : Blk (W2.setRow g6 #[.slice A9 n9 c9, .int .i64 d1.room, .int .i64 d1.fuse, .bool d1.down, .int .i64 d1.steps, .int .i64 d1.read]) go 34 (opcells o) := BlkR (by omega) bo2
      have hz3 : (W2.setRow g6 #[.slice A9 n9 c9, .int .i64 d1.room, .int .i64 d1.fuse, .bool d1.down, .int .i64 d1.steps, .int .i64 d1.read]).heap.size = W2.heap.size := by simp [World.setRow]
      have ho9lt := fun r (hr : hvB A9 hv9 r) => hv_lt ho3 hr
      generalize W2.setRow g6 #[.slice A9 n9 c9, .int .i64 d1.room, .int .i64 d1.fuse, .bool d1.down, .int .i64 d1.steps, .int .i64 d1.read] = W3 at *
      clear b9 b62 bo2 hx2 ho2 hbb2
      go_upto_region 13 with (first
        | (change wpList _ _ _ (⟨some 47, _, _, _, _, _⟩ :: _) _ _; refine wpL_load_row (o := ⟨some 47, _, _, _, _, _⟩) rfl 34 (.tmp 8) rfl go 34 (opcells o) 7 rfl bo3 op_wide rfl ?_)
        | (go_at_call 10; go_loud ((with_reducible refine (KC.out _ hX3).mono ?_); rintro e W5 ⟨A5, c5, rfl, ⟨D5, hs5, hX5, ht5, hf5⟩, hown5⟩)))
      have b65 := ht5.blk b63 G6.out
      have hoff5 : ∀ r, hvB A9 hv9 r → r ∉ foot g b hs := fun r hr hc => by
        rcases hb9 r hr with h1 | h1
        · exact Hoff.out r h1 hc
        · have := HX.out.lt r hc; have := HZ0.out; have := HGO.out; omega
      have ho5 := ho3.turn_ ht5 hoff5
      have hoffn : ∀ r, hvB A9 hv9 r → r ∉ foot g b hs5 := fun r hr hc => by
        rcases hf5 r hc with h1 | h1
        · exact hoff5 r hr h1
        · have := ho9lt r hr; omega
      have hg6n : g6 ∉ foot g b hs5 := fun hc => by
        rcases hf5 g6 hc with h1 | h1
        · exact G6.out h1
        · have := b63.lt; omega
      have hbb5 : Rd W5 Ab a1 (u8s l1) := rd_own (ht5.own hbb3 (fun r hr hc => by have h1 := (hbb3.lt r hr).1; have h2 := HX.out.lt r hc; have := HZ0.out; have := HGO.out; omega))
      have hl1 : a1 ≤ maxLen := own_max hbb3
      have KS := Lib.hid (same_any Ab A5 a1 cb a1 c5 l1 l1 W5 hbb5 (rd_own hown5) hl1)
      rw [decide_eq_true rfl] at KS
      have k0 := b65.cell 0
      have hm95 : FlRd W5 A9 n9 (imgL d1) := hv_fl ho5 hm9
      have q := fun w6 (hx : Ext W5 w6) => BlkE b65 hx
      clear hX3 ho3 hbb3 b63 bo3 ht5 hf5 hown5 hbb5 ho9lt hoff5 k0
      go_wp2_with (first
        | (go_at_call 11; (with_reducible refine (KS.out).mono ?_); rintro e W6 ⟨rfl, hx6⟩; have k0 := (q W6 hx6).cell 0; have k1 := (q W6 hx6).cell 1; have k2 := (q W6 hx6).cell 2; have k3 := (q W6 hx6).cell 3; have k4 := (q W6 hx6).cell 4; have k5 := (q W6 hx6).cell 5)
        | (go_at_call 8; (with_reducible refine (KT2.out _ _ _ (hX5.ext_ hx6) _ _ _ (hm95.ext hx6)).mono ?_); rintro e W7 ⟨rfl, hx7⟩))
      go_roundw
      case rel => exact ⟨k + 1, d1, D5, hs5, A9, n9, c9, hv9, by go_num, HI1.out, hs1k, (hX5.ext_ hx6).ext_ hx7, hm9, (ho5.ext hx6).ext hx7, hoffn, hg6n, hg6w, BlkE (BlkE b65 hx6) hx7⟩
      case measure => simp [intOf]; omega
    · have d3 : decide (k < ops.length) = false := by simpa using hlt
      have hx := hX.ext
      clear hX hmap hown hoff hI
      go_wp2_with fail
      go_ret
      exact ⟨rfl, hx⟩
end Go.Proofs.Ytdoaniimfhpjhaa
