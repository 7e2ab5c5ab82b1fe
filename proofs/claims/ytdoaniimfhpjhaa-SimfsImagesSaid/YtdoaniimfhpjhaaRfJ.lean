/-
  The document's disk: Do, the calls on a file.
-/
import Derived.Test.YtdoaniimfhpjhaaRfH
namespace Go.Proofs.Ytdoaniimfhpjhaa
open Go.RowKit
set_option linter.unusedVariables false
set_option linter.unusedSimpArgs false
/-- A row is kept where every block of another type than that of one block is. -/
theorem own_keep {w w9 : World} {base g n c : Nat} {e t : TypeId} {A : Option Addr} {s : Nat} {xs : List Value} {cs : Array Value} (h : w.ownsRow base e s (.slice A n c) n xs) (hb : Blk w g t cs) (hk : ∀ g' t' cs', g' ≠ g → Blk w g' t' cs' → Blk w9 g' t' cs') (ht : t ≠ e) : w9.ownsRow base e s (.slice A n c) n xs := by
  refine ⟨h.1, ?_⟩
  rcases h.2 with h2 | ⟨g2, cap, cur, h1, h2, hg2, h3⟩
  · exact .inl h2
  · refine .inr ⟨g2, cap, cur, h1, h2, hk g2 e cur (fun hc => ?_) hg2, h3⟩
    subst hc
    have hb2 : w.heap[g2]? = some (.cells cs t (0, 0)) := hb
    rw [hb2] at hg2
    injection hg2 with hg2
    injection hg2 with _ hg2
    exact ht hg2
theorem own_setRT {w : World} {base g : Nat} {e t : TypeId} {s n : Nat} {v : Value} {xs : List Value} {cs ds : Array Value} (h : w.ownsRow base e s v n xs) (hb : Blk w g t cs) (ht : t ≠ e) : (w.setRow g ds).ownsRow base e s v n xs := by
  refine own_heap h fun k hk => ?_
  simp only [World.setRow, Array.getElem?_modify]
  rw [if_neg]
  intro hc
  rcases h.2 with ⟨rfl, _⟩ | ⟨g2, cap, cur, rfl, _, hg2, _⟩
  · cases hk
  · simp only [Value.ownBlock, Option.some.injEq] at hk
    subst hk
    rw [← hc] at hg2
    have hb2 : w.heap[g]? = some (.cells cs t (0, 0)) := hb
    rw [hb2] at hg2
    injection hg2 with hg2
    injection hg2 with _ hg2
    exact ht hg2
theorem dofl_row {w : World} {B0 n c g : Nat} {A : Option Addr} {hs : List HV} {cs ds : Array Value} (hb : Blk w g 28 cs) (h : OwnFl w B0 A n c hs) : OwnFl (w.setRow g ds) B0 A n c hs :=
  ⟨own_setRT h.1 hb (by decide), fun x hx => own_setRT (h.2 x hx) hb (by decide)⟩
set_option maxRecDepth 100000 in
set_option maxHeartbeats 8000000 in
theorem do_mid {d : Dk} (hI : DkInv d) (o : Op10) (hk : 0 ≤ o.k ∧ o.k ≤ 7) (A : Option Addr) (n c B0 : Nat) (hs0 : List HV) (hmap : hs0.map (·.1) = imgL d) (Bb : Option Addr) (bc : Nat) (AK : Option Addr) (kl kc : Nat) (w : World) (hr : OwnFl w B0 A n c hs0) (hB : B0 ≤ w.heap.size) (hn64 : IsI64 o.n) (hm64 : IsI64 o.m) (hst : d.steps ≤ 4611686018427387904)
    (hbs : Rd w Bb o.b.length (u8s o.b)) (hbl : o.b.length ≤ 140737488355328) :
    Calls Try.prog 9 #[.agg #[.slice A n c, .int .i64 d.room, .int .i64 d.fuse, .bool d.down, .int .i64 d.steps, .int .i64 d.read], .agg #[.int .i64 o.k, .string o.name, .string o.tgt, .slice Bb o.b.length bc, .int .i64 o.n, .int .i64 o.m, .slice AK kl kc]] w (DoPost w B0 A hs0 (callD d o)) := by
  have hl0 := hr.len
  have hnn : n ≤ 700 := by have h2 := imgL_len d; rw [← hmap, List.length_map] at h2; have := hI.cnt; omega
  have hIc := inv_call hI o hn64
  have HR := Lib.hid hr
  have Hm := Lib.hid hmap
  have KB := Lib.hid fun W (hx : Ext w W) => rbar_any hI A n c o.k hk o.name o.tgt Bb o.b.length bc (by omega) o.n o.m hn64 hm64 AK kl kc W (hv_fl (hr.ext hx) hmap)
  have HBar := Lib.hid fun h => call_bar (d := d) hk h
  have HStep := Lib.hid fun hk5 h => call_step (d := d) (o := o) hk5 h hI.fuse.1
  have HRd := Lib.hid fun f hk6 h hg => call_read6 (d := d) (o := o) (f := f) hk6 h hg
  have HSz := Lib.hid fun f hk7 h hg => call_size7 (d := d) (o := o) (f := f) hk7 h hg
  have KCh := Lib.hid fun (d' : Dk) (hI' : DkInv d') (hk5 : 0 ≤ o.k ∧ o.k ≤ 5) (hd' : d'.files = chFil d o) (he : erD d o.k o.name o.tgt o.b.length o.n o.m = 0) r1 r2 r4 r5 r3 W (hx : Ext w W) => rchange_any hI hI' o hk5 hd' he A n c B0 hs0 hmap r1 r2 r4 r5 r3 Bb bc AK kl kc W (hr.ext hx) (Nat.le_trans hB hx.size) (hbs.ext hx)
  have HOp := Lib.hid fun h => erD_open (d := d) (K := o.k) (nm := o.name) (tn := o.tgt) (bl := o.b.length) (N := o.n) (M := o.m) h
  obtain ⟨RC, hRC⟩ : ∃ RC, RC = callD d o := ⟨_, rfl⟩
  rw [← hRC] at HBar HStep HRd HSz hIc ⊢
  obtain ⟨E, hE⟩ : ∃ E, E = erD d o.k o.name o.tgt o.b.length o.n o.m := ⟨_, rfl⟩
  rw [← hE] at KB HBar HStep HRd HSz HOp
  have HE := Lib.hid hE
  obtain ⟨K, nm, tg, bs, N, M, keep⟩ := o
  dsimp only at *
  obtain ⟨bl, hbl2⟩ : ∃ bl, bl = bs.length := ⟨_, rfl⟩
  rw [← hbl2] at KB KCh HE HOp hbs hbl ⊢
  have HBS := Lib.hid hbs
  have q8 : (K == 8) = false := by simp; omega
  have q9 : (K == 9) = false := by simp; omega
  have t1 : decide (K < 0) = false := by simp; omega
  have t2 : decide (9 < K) = false := by simp; omega
  clear hr hmap hbs hE hRC hbl2
  go_enter Try.func9, Try.ntmps9
  go_upto_region 1 with fail
  obtain ⟨W1, hW1⟩ : ∃ W1, W1 = ((w.alloc (.cells #[.slice A n c, .int .i64 d.room, .int .i64 d.fuse, .bool d.down, .int .i64 d.steps, .int .i64 d.read] 28)).alloc (.cells #[.int .i64 K, .string nm, .string tg, .slice Bb bl bc, .int .i64 N, .int .i64 M, .slice AK kl kc] 34)).alloc (.cells #[.slice none 0 0, .int .i64 0, .int .i64 0, .bool false, .int .i64 0, .int .i64 0] 28) := ⟨_, rfl⟩
  have bD : Blk W1 w.heap.size 28 #[.slice A n c, .int .i64 d.room, .int .i64 d.fuse, .bool d.down, .int .i64 d.steps, .int .i64 d.read] := by rw [hW1]; exact BlkA (BlkA (BlkN rfl))
  have bZ : Blk W1 (w.heap.size + 1 + 1) 28 #[.slice none 0 0, .int .i64 0, .int .i64 0, .bool false, .int .i64 0, .int .i64 0] := by rw [hW1]; exact BlkN (by simp)
  have bO : Blk W1 (w.heap.size + 1) 34 #[.int .i64 K, .string nm, .string tg, .slice Bb bl bc, .int .i64 N, .int .i64 M, .slice AK kl kc] := by rw [hW1]; exact BlkA (BlkN (by simp))
  have hX1 : Ext w W1 := by rw [hW1]; exact ExtA (ExtA (ExtA (Ext.rfl' w)))
  rw [← hW1]
  clear hW1
  have o0 := bO.cell 0
  go_upto_region 11 with (first | (with_reducible refine wpL_load_row rfl 28 (.tmp 2) rfl w.heap.size 28 _ 6 rfl bD disk_wide (dk_size _ _ _ _ _ _ _ _) ?_) | (with_reducible refine wpL_load_row rfl 34 (.tmp 3) rfl (w.heap.size + 1) 34 _ 7 rfl bO op_wide (op_size _ _ _ _ _ _ _ _ _ _ _) ?_) | (go_at_call 27; (with_reducible refine (KB.out _ hX1).mono ?_); rintro e W2 ⟨rfl, hx2⟩))
  have bD2 := BlkE bD hx2
  have bO2 := BlkE bO hx2
  have bZ2 := BlkE bZ hx2
  have hX2 := hX1.tr hx2
  clear bD bO bZ hX1 hx2 KB o0
  by_cases he0 : E = 0
  case neg =>
    have hc := HBar.out he0
    have HC := Lib.hid hc
    have t3 : ((E : Int) == 0) = false := by simp; omega
    have t4 : ((E : Int) != 0) = true := by simp; omega
    clear hc
    go_wp2_with (first | (with_reducible refine wpL_load_row rfl 28 (.tmp 2) rfl w.heap.size 28 _ 6 rfl bD2 disk_wide (dk_size _ _ _ _ _ _ _ _) ?_) | (with_reducible refine wpL_store_row rfl 28 (.tmp 4) (.tmp 41) rfl (w.heap.size + 1 + 1) 28 _ _ rfl rfl bZ2 ((dk_size _ _ _ _ _ _ _ _).trans (dk_size _ _ _ _ _ _ _ _).symm) (dk_one _ _ _ _ _ _ _ _) 6 disk_wide (dk_size _ _ _ _ _ _ _ _) ?_))
    (try simp only [Exit.inBlock, Exit.then]); refine bodyPost_ret (v := .tuple #[.agg #[.slice A n c, .int .i64 d.room, .int .i64 d.fuse, .bool d.down, .int .i64 d.steps, .int .i64 d.read], (.slice none 0 0), (.int .i64 0), (.int .i64 (E : Nat))]) (res_row_ttt rfl _ (w.heap.size + 1 + 1) 28 _ 6 _ _ _ rfl rfl rfl rfl ?_ disk_wide rfl) rfl ?_
    · exact Blk.setRow_ bZ2
    · have hXf := ExtR (a := w) (g := w.heap.size + 1 + 1) (ds := #[.slice A n c, .int .i64 d.room, .int .i64 d.fuse, .bool d.down, .int .i64 d.steps, .int .i64 d.read]) (by omega) hX2
      rw [HC.out]
      exact ⟨A, n, c, hs0, none, 0, rfl, Hm.out, hXf, HR.out.ext hXf, fun r hr => .inl hr, World.ownsRow_nil _ _ _ _⟩
  subst he0
  obtain ⟨hdn, hrt, h3, h4, h5, h6, h7, h8⟩ := HOp.out rfl
  clear hdn hrt h3
  have p0 := bO2.cell 0
  by_cases hk5 : K ≤ 5
  case neg =>
    have hk1 : K ≠ 0 := by omega
    have hany := h5 hk1
    obtain ⟨k, f, hi, hkk, hfn, hg, hfm⟩ : ∃ (k : Nat) (f : Fil), atI (imgL d) nm = (k : Nat) ∧ (imgL d)[k]? = some f.fv ∧ f.name = nm ∧ getF d nm = some f ∧ f ∈ d.files := by
      rcases at_img hI.nd nm with ⟨ha, _⟩ | ⟨k, f, _, h⟩
      · rw [hany] at ha; cases ha
      · exact ⟨k, f, h⟩
    have hlf : lenF d nm = f.data.length := by unfold lenF; rw [hg]; rfl
    rw [hlf] at h8
    have hkn : k < n := by have h1 := (List.getElem?_eq_some_iff.1 hkk).1; rw [imgL_len] at h1; have h2 := imgL_len d; rw [← Hm.out, List.length_map] at h2; omega
    obtain ⟨b, oo, f2, Af, cf, hfk, rfl, hc0, hof⟩ := ownfl_at HR.out hkn
    have hf2 : f2 = f.fv := by
      rw [← Hm.out, List.getElem?_map, hfk] at hkk
      injection hkk
    subst hf2
    have hcf := own_le' hof
    have hfs := (img_small hI _ (List.mem_of_getElem? hkk)).1
    have KA := Lib.hid fun W (hx : Ext w W) => rat_any (some ⟨b, oo, none⟩) n c (imgL d) d.room d.fuse d.steps d.read d.down nm W (hv_fl (HR.out.ext hx) Hm.out) (by simp only [maxLen]; omega)
    rw [hi] at KA
    have Hat := Lib.hid hi
    have e1 : w.cell? ⟨b, oo + k * 3 + 1, none⟩ = some (.slice Af f.fv.data.length cf) := hc0 1 _ rfl
    have Hof := Lib.hid hof
    obtain ⟨fb, hfb⟩ : ∃ fb, fb = f.data := ⟨_, rfl⟩
    have hfv : f.fv.data = fb := hfb.symm
    rw [hfv] at e1 hcf hfs Hof
    rw [← hfb] at h8
    obtain ⟨n0, hn0⟩ : ∃ n0, n0 = fb.length := ⟨_, rfl⟩
    rw [← hn0] at e1 hcf hfs h8
    have Hn0 := Lib.hid hn0
    have HG := Lib.hid hg
    have Hfb := Lib.hid hfb
    clear hany hi hkk hfn hg hfm hlf hfk hc0 hof hfv hn0 h4 h5 h6 h7 hfb KCh HStep
    by_cases h66 : K = 6
    · subst h66
      have hc := HRd.out f rfl rfl HG.out
      rw [← Hfb.out] at hc
      have HC := Lib.hid hc
      have h8 := h8 rfl
      obtain ⟨i, rfl⟩ : ∃ i : Nat, N = (i : Nat) := ⟨N.toNat, by omega⟩
      obtain ⟨m, rfl⟩ : ∃ m : Nat, M = (m : Nat) := ⟨M.toNat, by omega⟩
      obtain ⟨q, hq⟩ : ∃ q, q = i + m := ⟨_, rfl⟩
      have hqn : q ≤ n0 := by omega
      have hiq : i ≤ q := by omega
      obtain ⟨A7, hsl, hrd⟩ := slice_lh Af n0 cf i q hiq hqn hcf
      have hlq : q - i = m := by omega
      rw [hlq] at hsl hrd
      have hmt : ((fb.drop i).take m).length = m := by rw [List.length_take, List.length_drop]; have := Hn0.out; omega
      have KC := Lib.hid fun W (hx : Ext w W) => copy_any A7 m (cf - i) ((fb.drop i).take m) W (hrd W fb (by rw [Hn0.out]; exact rd_own (own_ext hx Hof.out))) (by omega)
      unfold NewB at KC
      rw [hmt] at KC
      have cw : IntKind.i64.wrap ((i : Int) + (m : Int)) = (q : Int) := by rw [IntKind.wrap_i64]; omega
      have f5 := bD2.cell 5
      have y5 := bD2.frozen 5
      have o5 := bO2.cell 5
      have Hmt := Lib.hid hmt
      clear hc hmt hrd h8 hlq hq HRd HSz HBar
      go_upto_region 15 with fail
      obtain ⟨R, hRr⟩ : ∃ R, R = wrap64 (d.read + (m : Nat)) := ⟨_, rfl⟩
      rw [← hRr]
      have bD3 := Blk_eq (BlkS (i := 5) (u := .int .i64 R) bD2) (cs' := #[.slice (some ⟨b, oo, none⟩) n c, .int .i64 d.room, .int .i64 d.fuse, .bool d.down, .int .i64 d.steps, .int .i64 R]) rfl
      have bO3 := BlkF (p := ⟨w.heap.size, 5, none⟩) (u := .int .i64 R) (show w.heap.size + 1 ≠ w.heap.size by omega) bO2
      have bZ3 := BlkF (p := ⟨w.heap.size, 5, none⟩) (u := .int .i64 R) (show w.heap.size + 1 + 1 ≠ w.heap.size by omega) bZ2
      have hX3 : Ext w (World.setCell W2 ⟨w.heap.size, 5, none⟩ (.int .i64 R)) := ExtS (Nat.le_refl _) hX2
      clear bD2 bO2 bZ2 hX2
      generalize World.setCell W2 ⟨w.heap.size, 5, none⟩ (.int .i64 R) = W3 at *
      have bD2 := bD3
      have bO2 := bO3
      have bZ2 := bZ3
      have hX2 := hX3
      clear bD3 bO3 bZ3 hX3
      have HRr := Lib.hid hRr
      clear f5 y5 o5 p0 hRr
      have KA2 := Lib.hid fun W (hx : Ext w W) => rat_any (some ⟨b, oo, none⟩) n c (imgL d) d.room d.fuse d.steps R d.down nm W (hv_fl (HR.out.ext hx) Hm.out) (by simp only [maxLen]; omega)
      rw [Hat.out] at KA2
      -- REGION15
      refine wp_region_held_drew (S := fun w' => Ext w w' ∧ Blk w' w.heap.size 28 #[.slice (some ⟨b, oo, none⟩) n c, .int .i64 d.room, .int .i64 d.fuse, .bool d.down, .int .i64 d.steps, .int .i64 R] ∧ Blk w' (w.heap.size + 1) 34 #[.int .i64 6, .string nm, .string tg, .slice Bb bl bc, .int .i64 (i : Nat), .int .i64 (m : Nat), .slice AK kl kc]) (by kernel_rfl) ⟨ExtD hX2, BlkD bD2, BlkD bO2⟩ (fun hS => ?_)
      refine takeD (some 52) (i := 0) (oi := ⟨some 52, _, _, _, _, _⟩) (v := .agg #[.slice (some ⟨b, oo, none⟩) n c, .int .i64 d.room, .int .i64 d.fuse, .bool d.down, .int .i64 d.steps, .int .i64 R]) rfl rfl (by kernel_rfl) (by kernel_rfl) (by kernel_rfl) (fun _ _ _ h => h) (Or.inl ⟨by kernel_rfl, fun w' hw => by have hc0 := hw.2.1.cell 0; have hc1 := hw.2.1.cell 1; have hc2 := hw.2.1.cell 2; have hc3 := hw.2.1.cell 3; have hc4 := hw.2.1.cell 4; have hc5 := hw.2.1.cell 5; go_simp⟩) hS ?_; (try simp only [Act.put, List.setIfInBounds_toArray, List.set_cons_zero, List.set_cons_succ])
      refine takeD (some 53) (i := 1) (oi := ⟨some 53, _, _, _, _, _⟩) (v := .pointer (some ⟨w.heap.size, 0, none⟩)) rfl rfl (by kernel_rfl) (by kernel_rfl) (by kernel_rfl) (fun _ _ _ h => h) (Or.inl ⟨by kernel_rfl, fun w hw => by go_simp⟩) hS ?_; (try simp only [Act.put, List.setIfInBounds_toArray, List.set_cons_zero, List.set_cons_succ])
      refine takeD (some 54) (i := 2) (oi := ⟨some 54, _, _, _, _, _⟩) (v := .slice (some ⟨b, oo, none⟩) n c) rfl rfl (by kernel_rfl) (by kernel_rfl) (by kernel_rfl) (fun _ _ _ h => h) (Or.inl ⟨by kernel_rfl, fun w' hw => by have hc0 := hw.2.1.cell 0; go_simp⟩) hS ?_; (try simp only [Act.put, List.setIfInBounds_toArray, List.set_cons_zero, List.set_cons_succ])
      refine takeD (some 55) (i := 3) (oi := ⟨some 55, _, _, _, _, _⟩) (v := .agg #[.slice (some ⟨b, oo, none⟩) n c, .int .i64 d.room, .int .i64 d.fuse, .bool d.down, .int .i64 d.steps, .int .i64 R]) rfl rfl (by kernel_rfl) (by kernel_rfl) (by kernel_rfl) (fun _ _ _ h => h) (Or.inl ⟨by kernel_rfl, fun w' hw => by have hc0 := hw.2.1.cell 0; have hc1 := hw.2.1.cell 1; have hc2 := hw.2.1.cell 2; have hc3 := hw.2.1.cell 3; have hc4 := hw.2.1.cell 4; have hc5 := hw.2.1.cell 5; go_simp⟩) hS ?_; (try simp only [Act.put, List.setIfInBounds_toArray, List.set_cons_zero, List.set_cons_succ])
      refine takeD (some 56) (i := 4) (oi := ⟨some 56, _, _, _, _, _⟩) (v := .pointer (some ⟨w.heap.size + 1, 1, none⟩)) rfl rfl (by kernel_rfl) (by kernel_rfl) (by kernel_rfl) (fun _ _ _ h => h) (Or.inl ⟨by kernel_rfl, fun w hw => by go_simp⟩) hS ?_; (try simp only [Act.put, List.setIfInBounds_toArray, List.set_cons_zero, List.set_cons_succ])
      refine takeD (some 57) (i := 5) (oi := ⟨some 57, _, _, _, _, _⟩) (v := .string nm) rfl rfl (by kernel_rfl) (by kernel_rfl) (by kernel_rfl) (fun _ _ _ h => h) (Or.inl ⟨by kernel_rfl, fun w' hw => by have hc0 := hw.2.2.cell 1; go_simp⟩) hS ?_; (try simp only [Act.put, List.setIfInBounds_toArray, List.set_cons_zero, List.set_cons_succ])
      refine takeD (some 62) (i := 10) (oi := ⟨some 62, _, _, _, _, _⟩) (v := .pointer (some ⟨w.heap.size + 1, 4, none⟩)) rfl rfl (by kernel_rfl) (by kernel_rfl) (by kernel_rfl) (fun _ _ _ h => h) (Or.inl ⟨by kernel_rfl, fun w hw => by go_simp⟩) hS ?_; (try simp only [Act.put, List.setIfInBounds_toArray, List.set_cons_zero, List.set_cons_succ])
      refine takeD (some 63) (i := 11) (oi := ⟨some 63, _, _, _, _, _⟩) (v := .int .i64 (i : Nat)) rfl rfl (by kernel_rfl) (by kernel_rfl) (by kernel_rfl) (fun _ _ _ h => h) (Or.inl ⟨by kernel_rfl, fun w' hw => by have hc0 := hw.2.2.cell 4; go_simp⟩) hS ?_; (try simp only [Act.put, List.setIfInBounds_toArray, List.set_cons_zero, List.set_cons_succ])
      refine takeD (some 64) (i := 12) (oi := ⟨some 64, _, _, _, _, _⟩) (v := .pointer (some ⟨w.heap.size + 1, 4, none⟩)) rfl rfl (by kernel_rfl) (by kernel_rfl) (by kernel_rfl) (fun _ _ _ h => h) (Or.inl ⟨by kernel_rfl, fun w hw => by go_simp⟩) hS ?_; (try simp only [Act.put, List.setIfInBounds_toArray, List.set_cons_zero, List.set_cons_succ])
      refine takeD (some 65) (i := 13) (oi := ⟨some 65, _, _, _, _, _⟩) (v := .int .i64 (i : Nat)) rfl rfl (by kernel_rfl) (by kernel_rfl) (by kernel_rfl) (fun _ _ _ h => h) (Or.inl ⟨by kernel_rfl, fun w' hw => by have hc0 := hw.2.2.cell 4; go_simp⟩) hS ?_; (try simp only [Act.put, List.setIfInBounds_toArray, List.set_cons_zero, List.set_cons_succ])
      refine takeD (some 66) (i := 14) (oi := ⟨some 66, _, _, _, _, _⟩) (v := .pointer (some ⟨w.heap.size + 1, 5, none⟩)) rfl rfl (by kernel_rfl) (by kernel_rfl) (by kernel_rfl) (fun _ _ _ h => h) (Or.inl ⟨by kernel_rfl, fun w hw => by go_simp⟩) hS ?_; (try simp only [Act.put, List.setIfInBounds_toArray, List.set_cons_zero, List.set_cons_succ])
      refine takeD (some 67) (i := 15) (oi := ⟨some 67, _, _, _, _, _⟩) (v := .int .i64 (m : Nat)) rfl rfl (by kernel_rfl) (by kernel_rfl) (by kernel_rfl) (fun _ _ _ h => h) (Or.inl ⟨by kernel_rfl, fun w' hw => by have hc0 := hw.2.2.cell 5; go_simp⟩) hS ?_; (try simp only [Act.put, List.setIfInBounds_toArray, List.set_cons_zero, List.set_cons_succ])
      refine takeD (some 68) (i := 16) (oi := ⟨some 68, _, _, _, _, _⟩) (v := .int .i64 (q : Nat)) rfl rfl (by kernel_rfl) (by kernel_rfl) (by kernel_rfl) (fun _ _ _ h => h) (Or.inl ⟨by kernel_rfl, fun w hw => by go_simp⟩) hS ?_; (try simp only [Act.put, List.setIfInBounds_toArray, List.set_cons_zero, List.set_cons_succ])
      refine wpAnyH_ready (rs := [6]) (by kernel_rfl) (by simp) (AllReadyH.cons (o := ⟨some 58, _, _, _, _, _⟩) rfl (fun K hK => ?_) (AllReadyH.nil))
      refine step_callG rfl (some 58) rfl 29 _ Try.func29 (by kernel_rfl) (by kernel_rfl) _ _ rfl #[.agg #[.slice (some ⟨b, oo, none⟩) n c, .int .i64 d.room, .int .i64 d.fuse, .bool d.down, .int .i64 d.steps, .int .i64 R], .string nm] (by first | rfl | simp [Act.eval, Act.put]) _ (KA2.out _ hS.1) ?_; rintro e w4 ⟨rfl, hx4⟩; refine ⟨_, rfl, hK.out _ _ ⟨Ext.tr hS.1 hx4, BlkE hS.2.1 hx4, BlkE hS.2.2 hx4⟩ ?_⟩; intro hS; clear hK; (try simp only [Act.put, List.setIfInBounds_toArray, List.set_cons_zero, List.set_cons_succ])
      refine takeD (some 59) (i := 7) (oi := ⟨some 59, _, _, _, _, _⟩) (v := .pointer (some ⟨b, oo + k * 3, none⟩)) rfl rfl (by kernel_rfl) (by kernel_rfl) (by kernel_rfl) (fun _ _ _ h => h) (Or.inl ⟨by kernel_rfl, fun w hw => by go_simp⟩) hS ?_; (try simp only [Act.put, List.setIfInBounds_toArray, List.set_cons_zero, List.set_cons_succ])
      refine takeD (some 60) (i := 8) (oi := ⟨some 60, _, _, _, _, _⟩) (v := .pointer (some ⟨b, oo + k * 3 + 1, none⟩)) rfl rfl (by kernel_rfl) (by kernel_rfl) (by kernel_rfl) (fun _ _ _ h => h) (Or.inl ⟨by kernel_rfl, fun w hw => by go_simp⟩) hS ?_; (try simp only [Act.put, List.setIfInBounds_toArray, List.set_cons_zero, List.set_cons_succ])
      refine takeD (some 61) (i := 9) (oi := ⟨some 61, _, _, _, _, _⟩) (v := .slice Af n0 cf) rfl rfl (by kernel_rfl) (by kernel_rfl) (by kernel_rfl) (fun _ _ _ h => h) (Or.inl ⟨by kernel_rfl, fun w' hw => by have hc0 := Ext.cell hw.1 e1; go_simp⟩) hS ?_; (try simp only [Act.put, List.setIfInBounds_toArray, List.set_cons_zero, List.set_cons_succ])
      refine takeD (some 69) (i := 17) (oi := ⟨some 69, _, _, _, _, _⟩) (v := .slice A7 m (cf - i)) rfl rfl (by kernel_rfl) (by kernel_rfl) (by kernel_rfl) (fun _ _ _ h => h) (Or.inl ⟨by kernel_rfl, fun w hw => by go_simp⟩) hS ?_; (try simp only [Act.put, List.setIfInBounds_toArray, List.set_cons_zero, List.set_cons_succ])
      refine wpAnyH_ready (rs := [18]) (by kernel_rfl) (by simp) (AllReadyH.cons (o := ⟨some 70, _, _, _, _, _⟩) rfl (fun K hK => ?_) (AllReadyH.nil))
      refine step_callG rfl (some 70) rfl 28 _ Try.func28 (by kernel_rfl) (by kernel_rfl) _ _ rfl #[.slice A7 m (cf - i)] (by first | rfl | simp [Act.eval, Act.put]) _ (KC.out _ hS.1) ?_; rintro e w5 ⟨A8, c8, rfl, hx5, hou⟩; refine ⟨_, rfl, hK.out _ _ ⟨Ext.tr hS.1 hx5, BlkE hS.2.1 hx5, BlkE hS.2.2 hx5⟩ ?_⟩; intro hS; clear hK; (try simp only [Act.put, List.setIfInBounds_toArray, List.set_cons_zero, List.set_cons_succ])
      have bz := BlkE (BlkE (BlkD bZ2) hx4) hx5
      refine wpAnyH_ready (rs := [19]) (by kernel_rfl) (by simp) (AllReadyH.cons (o := ⟨none, _, _, _, _, _⟩) rfl (fun K hK => ?_) (AllReadyH.nil))
      refine step_store rfl none rfl 28 (.tmp 4) (.tmp 52) rfl (w.heap.size + 1 + 1) 28 _ #[.slice (some ⟨b, oo, none⟩) n c, .int .i64 d.room, .int .i64 d.fuse, .bool d.down, .int .i64 d.steps, .int .i64 R] rfl rfl bz rfl (dk_one _ _ _ _ _ _ _ _) 6 disk_wide rfl ?_; intro w9 bZ9 hkeep hext; have own_row4 : Hid (∀ A5 {n5 c5 : Nat} {B5 : Nat} {xs5 : List Value}, World.ownsRow _ B5 5 1 (.slice A5 n5 c5) n5 xs5 → w9.ownsRow B5 5 1 (.slice A5 n5 c5) n5 xs5) := Lib.hid (fun A5 n5 c5 B5 xs5 h => own_keep h bz hkeep (by decide)); refine hK.out _ _ ⟨hext _ (by omega) hS.1, hkeep _ _ _ (by omega) hS.2.1, hkeep _ _ _ (by omega) hS.2.2⟩ ?_; intro hS; clear hkeep hext hK; (try simp only [Act.put, List.setIfInBounds_toArray, List.set_cons_zero, List.set_cons_succ])
      refine takeD (some 5) (i := 20) (oi := ⟨some 5, _, _, _, _, _⟩) (v := .slice A8 m c8) rfl rfl (by kernel_rfl) (by kernel_rfl) (by kernel_rfl) (fun _ _ _ h => h) (Or.inl ⟨by kernel_rfl, fun w hw => by go_simp⟩) hS ?_; (try simp only [Act.put, List.setIfInBounds_toArray, List.set_cons_zero, List.set_cons_succ])
      refine takeD (some 6) (i := 21) (oi := ⟨some 6, _, _, _, _, _⟩) (v := .int .i64 0) rfl rfl (by kernel_rfl) (by kernel_rfl) (by kernel_rfl) (fun _ _ _ h => h) (Or.inl ⟨by kernel_rfl, fun w hw => by go_simp⟩) hS ?_; (try simp only [Act.put, List.setIfInBounds_toArray, List.set_cons_zero, List.set_cons_succ])
      refine takeD (some 7) (i := 22) (oi := ⟨some 7, _, _, _, _, _⟩) (v := .int .i64 0) rfl rfl (by kernel_rfl) (by kernel_rfl) (by kernel_rfl) (fun _ _ _ h => h) (Or.inl ⟨by kernel_rfl, fun w hw => by go_simp⟩) hS ?_; (try simp only [Act.put, List.setIfInBounds_toArray, List.set_cons_zero, List.set_cons_succ])
      refine wpAnyH_done (by kernel_rfl) ?_ _
      -- END15
      go_wp2_with fail
      (try simp only [Exit.inBlock, Exit.then]); refine bodyPost_ret (v := .tuple #[.agg #[.slice (some ⟨b, oo, none⟩) n c, .int .i64 d.room, .int .i64 d.fuse, .bool d.down, .int .i64 d.steps, .int .i64 R], (.slice A8 m c8), (.int .i64 0), (.int .i64 0)]) (res_row_ttt rfl _ (w.heap.size + 1 + 1) 28 _ 6 _ _ _ rfl rfl rfl rfl ?_ disk_wide rfl) rfl ?_
      · exact bZ9
      · have hou2 : w9.ownsRow w.heap.size 5 1 (.slice A8 m c8) m (u8s ((fb.drop i).take m)) := own_base (own_row4.out _ hou) (by have := hX2.size; have h9 := hx4.size; simp at h9; omega)
        have hXf := hS.1
        rw [HC.out]
        refine ⟨some ⟨b, oo, none⟩, n, c, hs0, A8, c8, ?_, Hm.out, hXf, HR.out.ext hXf, fun r hr => .inl hr, ?_⟩
        · dsimp only
          rw [Int.toNat_natCast, Int.toNat_natCast, Hmt.out, HRr.out]
          rfl
        · dsimp only
          rw [Int.toNat_natCast, Int.toNat_natCast, Hmt.out]
          exact hou2
    · obtain rfl : K = 7 := by omega
      have hc := HSz.out f rfl rfl HG.out
      rw [← Hfb.out] at hc
      have HC := Lib.hid hc
      clear hc HRd HSz HBar h8 h66
      go_upto_region 17 with fail
      -- REGION17
      refine wp_region_held_drew (S := fun w' => Ext w w' ∧ Blk w' w.heap.size 28 #[.slice (some ⟨b, oo, none⟩) n c, .int .i64 d.room, .int .i64 d.fuse, .bool d.down, .int .i64 d.steps, .int .i64 d.read] ∧ Blk w' (w.heap.size + 1) 34 #[.int .i64 7, .string nm, .string tg, .slice Bb bl bc, .int .i64 N, .int .i64 M, .slice AK kl kc]) (by kernel_rfl) ⟨ExtD hX2, BlkD bD2, BlkD bO2⟩ (fun hS => ?_)
      refine takeD (some 74) (i := 0) (oi := ⟨some 74, _, _, _, _, _⟩) (v := .agg #[.slice (some ⟨b, oo, none⟩) n c, .int .i64 d.room, .int .i64 d.fuse, .bool d.down, .int .i64 d.steps, .int .i64 d.read]) rfl rfl (by kernel_rfl) (by kernel_rfl) (by kernel_rfl) (fun _ _ _ h => h) (Or.inl ⟨by kernel_rfl, fun w' hw => by have hc0 := hw.2.1.cell 0; have hc1 := hw.2.1.cell 1; have hc2 := hw.2.1.cell 2; have hc3 := hw.2.1.cell 3; have hc4 := hw.2.1.cell 4; have hc5 := hw.2.1.cell 5; go_simp⟩) hS ?_; (try simp only [Act.put, List.setIfInBounds_toArray, List.set_cons_zero, List.set_cons_succ])
      refine takeD (some 75) (i := 1) (oi := ⟨some 75, _, _, _, _, _⟩) (v := .pointer (some ⟨w.heap.size, 0, none⟩)) rfl rfl (by kernel_rfl) (by kernel_rfl) (by kernel_rfl) (fun _ _ _ h => h) (Or.inl ⟨by kernel_rfl, fun w hw => by go_simp⟩) hS ?_; (try simp only [Act.put, List.setIfInBounds_toArray, List.set_cons_zero, List.set_cons_succ])
      refine takeD (some 76) (i := 2) (oi := ⟨some 76, _, _, _, _, _⟩) (v := .slice (some ⟨b, oo, none⟩) n c) rfl rfl (by kernel_rfl) (by kernel_rfl) (by kernel_rfl) (fun _ _ _ h => h) (Or.inl ⟨by kernel_rfl, fun w' hw => by have hc0 := hw.2.1.cell 0; go_simp⟩) hS ?_; (try simp only [Act.put, List.setIfInBounds_toArray, List.set_cons_zero, List.set_cons_succ])
      refine takeD (some 77) (i := 3) (oi := ⟨some 77, _, _, _, _, _⟩) (v := .agg #[.slice (some ⟨b, oo, none⟩) n c, .int .i64 d.room, .int .i64 d.fuse, .bool d.down, .int .i64 d.steps, .int .i64 d.read]) rfl rfl (by kernel_rfl) (by kernel_rfl) (by kernel_rfl) (fun _ _ _ h => h) (Or.inl ⟨by kernel_rfl, fun w' hw => by have hc0 := hw.2.1.cell 0; have hc1 := hw.2.1.cell 1; have hc2 := hw.2.1.cell 2; have hc3 := hw.2.1.cell 3; have hc4 := hw.2.1.cell 4; have hc5 := hw.2.1.cell 5; go_simp⟩) hS ?_; (try simp only [Act.put, List.setIfInBounds_toArray, List.set_cons_zero, List.set_cons_succ])
      refine takeD (some 78) (i := 4) (oi := ⟨some 78, _, _, _, _, _⟩) (v := .pointer (some ⟨w.heap.size + 1, 1, none⟩)) rfl rfl (by kernel_rfl) (by kernel_rfl) (by kernel_rfl) (fun _ _ _ h => h) (Or.inl ⟨by kernel_rfl, fun w hw => by go_simp⟩) hS ?_; (try simp only [Act.put, List.setIfInBounds_toArray, List.set_cons_zero, List.set_cons_succ])
      refine takeD (some 79) (i := 5) (oi := ⟨some 79, _, _, _, _, _⟩) (v := .string nm) rfl rfl (by kernel_rfl) (by kernel_rfl) (by kernel_rfl) (fun _ _ _ h => h) (Or.inl ⟨by kernel_rfl, fun w' hw => by have hc0 := hw.2.2.cell 1; go_simp⟩) hS ?_; (try simp only [Act.put, List.setIfInBounds_toArray, List.set_cons_zero, List.set_cons_succ])
      refine wpAnyH_ready (rs := [6]) (by kernel_rfl) (by simp) (AllReadyH.cons (o := ⟨some 80, _, _, _, _, _⟩) rfl (fun K hK => ?_) (AllReadyH.nil))
      refine step_callG rfl (some 80) rfl 29 _ Try.func29 (by kernel_rfl) (by kernel_rfl) _ _ rfl #[.agg #[.slice (some ⟨b, oo, none⟩) n c, .int .i64 d.room, .int .i64 d.fuse, .bool d.down, .int .i64 d.steps, .int .i64 d.read], .string nm] (by first | rfl | simp [Act.eval, Act.put]) _ (KA.out _ hS.1) ?_; rintro e w4 ⟨rfl, hx4⟩; refine ⟨_, rfl, hK.out _ _ ⟨Ext.tr hS.1 hx4, BlkE hS.2.1 hx4, BlkE hS.2.2 hx4⟩ ?_⟩; intro hS; clear hK; (try simp only [Act.put, List.setIfInBounds_toArray, List.set_cons_zero, List.set_cons_succ])
      refine takeD (some 81) (i := 7) (oi := ⟨some 81, _, _, _, _, _⟩) (v := .pointer (some ⟨b, oo + k * 3, none⟩)) rfl rfl (by kernel_rfl) (by kernel_rfl) (by kernel_rfl) (fun _ _ _ h => h) (Or.inl ⟨by kernel_rfl, fun w hw => by go_simp⟩) hS ?_; (try simp only [Act.put, List.setIfInBounds_toArray, List.set_cons_zero, List.set_cons_succ])
      refine takeD (some 82) (i := 8) (oi := ⟨some 82, _, _, _, _, _⟩) (v := .pointer (some ⟨b, oo + k * 3 + 1, none⟩)) rfl rfl (by kernel_rfl) (by kernel_rfl) (by kernel_rfl) (fun _ _ _ h => h) (Or.inl ⟨by kernel_rfl, fun w hw => by go_simp⟩) hS ?_; (try simp only [Act.put, List.setIfInBounds_toArray, List.set_cons_zero, List.set_cons_succ])
      refine takeD (some 83) (i := 9) (oi := ⟨some 83, _, _, _, _, _⟩) (v := .slice Af n0 cf) rfl rfl (by kernel_rfl) (by kernel_rfl) (by kernel_rfl) (fun _ _ _ h => h) (Or.inl ⟨by kernel_rfl, fun w' hw => by have hc0 := Ext.cell hw.1 e1; go_simp⟩) hS ?_; (try simp only [Act.put, List.setIfInBounds_toArray, List.set_cons_zero, List.set_cons_succ])
      refine takeD (some 84) (i := 10) (oi := ⟨some 84, _, _, _, _, _⟩) (v := .int .i64 (n0 : Nat)) rfl rfl (by kernel_rfl) (by kernel_rfl) (by kernel_rfl) (fun _ _ _ h => h) (Or.inl ⟨by kernel_rfl, fun w hw => by go_simp⟩) hS ?_; (try simp only [Act.put, List.setIfInBounds_toArray, List.set_cons_zero, List.set_cons_succ])
      have bz := BlkE (BlkD bZ2) hx4
      refine wpAnyH_ready (rs := [11]) (by kernel_rfl) (by simp) (AllReadyH.cons (o := ⟨none, _, _, _, _, _⟩) rfl (fun K hK => ?_) (AllReadyH.nil))
      refine step_store rfl none rfl 28 (.tmp 4) (.tmp 74) rfl (w.heap.size + 1 + 1) 28 _ #[.slice (some ⟨b, oo, none⟩) n c, .int .i64 d.room, .int .i64 d.fuse, .bool d.down, .int .i64 d.steps, .int .i64 d.read] rfl rfl bz rfl (dk_one _ _ _ _ _ _ _ _) 6 disk_wide rfl ?_; intro w9 bZ9 hkeep hext; have own_row4 : Hid (∀ A5 {n5 c5 : Nat} {B5 : Nat} {xs5 : List Value}, World.ownsRow _ B5 5 1 (.slice A5 n5 c5) n5 xs5 → w9.ownsRow B5 5 1 (.slice A5 n5 c5) n5 xs5) := Lib.hid (fun A5 n5 c5 B5 xs5 h => own_keep h bz hkeep (by decide)); refine hK.out _ _ ⟨hext _ (by omega) hS.1, hkeep _ _ _ (by omega) hS.2.1, hkeep _ _ _ (by omega) hS.2.2⟩ ?_; intro hS; clear hkeep hext hK; (try simp only [Act.put, List.setIfInBounds_toArray, List.set_cons_zero, List.set_cons_succ])
      refine takeD (some 5) (i := 12) (oi := ⟨some 5, _, _, _, _, _⟩) (v := .slice none 0 0) rfl rfl (by kernel_rfl) (by kernel_rfl) (by kernel_rfl) (fun _ _ _ h => h) (Or.inl ⟨by kernel_rfl, fun w hw => by go_simp⟩) hS ?_; (try simp only [Act.put, List.setIfInBounds_toArray, List.set_cons_zero, List.set_cons_succ])
      refine takeD (some 6) (i := 13) (oi := ⟨some 6, _, _, _, _, _⟩) (v := .int .i64 (n0 : Nat)) rfl rfl (by kernel_rfl) (by kernel_rfl) (by kernel_rfl) (fun _ _ _ h => h) (Or.inl ⟨by kernel_rfl, fun w hw => by go_simp⟩) hS ?_; (try simp only [Act.put, List.setIfInBounds_toArray, List.set_cons_zero, List.set_cons_succ])
      refine takeD (some 7) (i := 14) (oi := ⟨some 7, _, _, _, _, _⟩) (v := .int .i64 0) rfl rfl (by kernel_rfl) (by kernel_rfl) (by kernel_rfl) (fun _ _ _ h => h) (Or.inl ⟨by kernel_rfl, fun w hw => by go_simp⟩) hS ?_; (try simp only [Act.put, List.setIfInBounds_toArray, List.set_cons_zero, List.set_cons_succ])
      refine wpAnyH_done (by kernel_rfl) ?_ _
      -- END17
      go_wp2_with fail
      (try simp only [Exit.inBlock, Exit.then]); refine bodyPost_ret (v := .tuple #[.agg #[.slice (some ⟨b, oo, none⟩) n c, .int .i64 d.room, .int .i64 d.fuse, .bool d.down, .int .i64 d.steps, .int .i64 d.read], (.slice none 0 0), (.int .i64 (n0 : Nat)), (.int .i64 0)]) (res_row_ttt rfl _ (w.heap.size + 1 + 1) 28 _ 6 _ _ _ rfl rfl rfl rfl ?_ disk_wide rfl) rfl ?_
      · exact bZ9
      · have hXf := hS.1
        rw [HC.out]
        exact ⟨some ⟨b, oo, none⟩, n, c, hs0, none, 0, by rw [Hn0.out]; rfl, Hm.out, hXf, HR.out.ext hXf, fun r hr => .inl hr, World.ownsRow_nil _ _ _ _⟩
  case pos =>
    have hk5' : 0 ≤ K ∧ K ≤ 5 := ⟨hk.1, hk5⟩
    have t6 : (K == 6) = false := by simp; omega
    have t7 : (K == 7) = false := by simp; omega
    have hst2 := HStep.out hk5' rfl
    have f2 := bD2.cell 2
    have hfu := hI.fuse
    by_cases hf1 : d.fuse = 1
    · obtain ⟨u, hRCu⟩ := hst2.1 hf1
      obtain ⟨d', hd'⟩ : ∃ d', d' = ({ d with fuse := 0, down := true, files := if K = 1 then chFil d ⟨K, nm, tg, bs, N, M, keep⟩ else d.files, used := u } : Dk) := ⟨_, rfl⟩
      rw [← hd'] at hRCu
      have HC := Lib.hid hRCu
      rw [hRCu] at hIc
      dsimp only at hIc
      have uf : (d.fuse == 1) = true := by simpa using hf1
      have y2 := bD2.frozen 2
      have HD := Lib.hid hd'
      clear hst2 hRCu hd'
      go_upto_region 20 with fail
      have bD3 := Blk_eq (BlkS (i := 2) (u := .int .i64 0) bD2) (cs' := #[.slice A n c, .int .i64 d.room, .int .i64 0, .bool d.down, .int .i64 d.steps, .int .i64 d.read]) rfl
      have bO3 := BlkF (p := ⟨w.heap.size, 2, none⟩) (u := .int .i64 0) (show w.heap.size + 1 ≠ w.heap.size by omega) bO2
      have bZ3 := BlkF (p := ⟨w.heap.size, 2, none⟩) (u := .int .i64 0) (show w.heap.size + 1 + 1 ≠ w.heap.size by omega) bZ2
      have hX3 : Ext w (World.setCell W2 ⟨w.heap.size, 2, none⟩ (.int .i64 0)) := ExtS (Nat.le_refl _) hX2
      clear bD2 bO2 bZ2 hX2
      generalize World.setCell W2 ⟨w.heap.size, 2, none⟩ (.int .i64 0) = W3 at *
      have bD2 := bD3
      have bO2 := bO3
      have bZ2 := bZ3
      have hX2 := hX3
      clear bD3 bO3 bZ3 hX3
      have y3 := bD2.frozen 3
      have f3 := bD2.cell 3
      clear f2 y2
      go_upto_region 21 with fail
      have bD3 := Blk_eq (BlkS (i := 3) (u := .bool true) bD2) (cs' := #[.slice A n c, .int .i64 d.room, .int .i64 0, .bool true, .int .i64 d.steps, .int .i64 d.read]) rfl
      have bO3 := BlkF (p := ⟨w.heap.size, 3, none⟩) (u := .bool true) (show w.heap.size + 1 ≠ w.heap.size by omega) bO2
      have bZ3 := BlkF (p := ⟨w.heap.size, 3, none⟩) (u := .bool true) (show w.heap.size + 1 + 1 ≠ w.heap.size by omega) bZ2
      have hX3 : Ext w (World.setCell W3 ⟨w.heap.size, 3, none⟩ (.bool true)) := ExtS (Nat.le_refl _) hX2
      clear bD2 bO2 bZ2 hX2
      generalize World.setCell W3 ⟨w.heap.size, 3, none⟩ (.bool true) = W4 at *
      have bD2 := bD3
      have bO2 := bO3
      have bZ2 := bZ3
      have hX2 := hX3
      clear bD3 bO3 bZ3 hX3
      clear y3 f3
      have p1 := bO2.cell 0
      clear p0
      by_cases hk1 : K = 1
      · have t8 : (K == 1) = true := by simpa using hk1
        have hf9 : d'.files = chFil d ⟨K, nm, tg, bs, N, M, keep⟩ := by rw [HD.out]; exact if_pos hk1
        subst hk1
        have KC := Lib.hid fun W hx => KCh.out d' hIc hk5' hf9 HE.out.symm d.room 0 d.steps d.read true W hx
        unfold ChPost at KC
        clear KCh hf9
        go_wp2_with (first
          | (with_reducible refine wpL_load_row rfl 28 (.tmp 2) rfl w.heap.size 28 _ 6 rfl bD2 disk_wide (dk_size _ _ _ _ _ _ _ _) ?_)
          | (with_reducible refine wpL_load_row rfl 34 (.tmp 3) rfl (w.heap.size + 1) 34 _ 7 rfl bO2 op_wide (op_size _ _ _ _ _ _ _ _ _ _ _) ?_)
          | (go_at_call 30; (with_reducible refine (KC.out _ hX2).mono ?_); rintro e W9 ⟨A9, n9, c9, hs9, rfl, hm9, hx9, ho9, hb9⟩; have bZ9 := BlkE bZ2 hx9; have bD9 := BlkE bD2 hx9; have bD10 : Blk (W9.setRow w.heap.size #[.slice A9 n9 c9, .int .i64 d.room, .int .i64 0, .bool true, .int .i64 d.steps, .int .i64 d.read]) w.heap.size 28 _ := Blk.setRow_ bD9; have bZ10 : Blk (W9.setRow w.heap.size #[.slice A9 n9 c9, .int .i64 d.room, .int .i64 0, .bool true, .int .i64 d.steps, .int .i64 d.read]) (w.heap.size + 1 + 1) 28 _ := BlkR (by omega) bZ9)
          | (with_reducible refine wpL_store_row rfl 28 (.tmp 2) (.tmp 95) rfl w.heap.size 28 _ _ rfl rfl bD9 ((dk_size _ _ _ _ _ _ _ _).trans (dk_size _ _ _ _ _ _ _ _).symm) (dk_one _ _ _ _ _ _ _ _) 6 disk_wide (dk_size _ _ _ _ _ _ _ _) ?_)
          | (with_reducible refine wpL_load_row rfl 28 (.tmp 2) rfl w.heap.size 28 _ 6 rfl bD10 disk_wide (dk_size _ _ _ _ _ _ _ _) ?_)
          | (with_reducible refine wpL_store_row rfl 28 (.tmp 4) (.tmp 96) rfl (w.heap.size + 1 + 1) 28 _ _ rfl rfl bZ10 ((dk_size _ _ _ _ _ _ _ _).trans (dk_size _ _ _ _ _ _ _ _).symm) (dk_one _ _ _ _ _ _ _ _) 6 disk_wide (dk_size _ _ _ _ _ _ _ _) ?_))
        (try simp only [Exit.inBlock, Exit.then]); refine bodyPost_ret (v := .tuple #[.agg #[.slice A9 n9 c9, .int .i64 d.room, .int .i64 0, .bool true, .int .i64 d.steps, .int .i64 d.read], (.slice none 0 0), (.int .i64 0), (.int .i64 3)]) (res_row_ttt rfl _ (w.heap.size + 1 + 1) 28 _ 6 _ _ _ rfl rfl rfl rfl ?_ disk_wide rfl) rfl ?_
        · exact Blk.setRow_ bZ10
        · have hXf := ExtR (a := w) (g := w.heap.size + 1 + 1) (ds := #[.slice A9 n9 c9, .int .i64 d.room, .int .i64 0, .bool true, .int .i64 d.steps, .int .i64 d.read]) (by omega) (ExtR (a := w) (g := w.heap.size) (ds := #[.slice A9 n9 c9, .int .i64 d.room, .int .i64 0, .bool true, .int .i64 d.steps, .int .i64 d.read]) (Nat.le_refl _) (hX2.tr hx9))
          have hz0 := hX2.size
          rw [HC.out]
          refine ⟨A9, n9, c9, hs9, none, 0, ?_, hm9, hXf, dofl_row bZ10 (dofl_row bD9 ho9), fun r hr => (hb9 r hr).imp id (fun h => by omega), World.ownsRow_nil _ _ _ _⟩
          dsimp only
          rw [HD.out]
          rfl
      · have t8 : (K == 1) = false := by simpa using hk1
        have hf9 : imgL d' = imgL d := by rw [HD.out, if_neg hk1]; rfl
        have HF9 := Lib.hid hf9
        clear KCh hf9 hk1
        go_wp2_with (first
          | (with_reducible refine wpL_load_row rfl 28 (.tmp 2) rfl w.heap.size 28 _ 6 rfl bD2 disk_wide (dk_size _ _ _ _ _ _ _ _) ?_)
          | (with_reducible refine wpL_store_row rfl 28 (.tmp 4) (.tmp 96) rfl (w.heap.size + 1 + 1) 28 _ _ rfl rfl bZ2 ((dk_size _ _ _ _ _ _ _ _).trans (dk_size _ _ _ _ _ _ _ _).symm) (dk_one _ _ _ _ _ _ _ _) 6 disk_wide (dk_size _ _ _ _ _ _ _ _) ?_))
        (try simp only [Exit.inBlock, Exit.then]); refine bodyPost_ret (v := .tuple #[.agg #[.slice A n c, .int .i64 d.room, .int .i64 0, .bool true, .int .i64 d.steps, .int .i64 d.read], (.slice none 0 0), (.int .i64 0), (.int .i64 3)]) (res_row_ttt rfl _ (w.heap.size + 1 + 1) 28 _ 6 _ _ _ rfl rfl rfl rfl ?_ disk_wide rfl) rfl ?_
        · exact Blk.setRow_ bZ2
        · have hXf := ExtR (a := w) (g := w.heap.size + 1 + 1) (ds := #[.slice A n c, .int .i64 d.room, .int .i64 0, .bool true, .int .i64 d.steps, .int .i64 d.read]) (by omega) hX2
          rw [HC.out]
          refine ⟨A, n, c, hs0, none, 0, ?_, Hm.out.trans HF9.out.symm, hXf, HR.out.ext hXf, fun r hr => .inl hr, World.ownsRow_nil _ _ _ _⟩
          dsimp only
          rw [HD.out]
          rfl
    · obtain ⟨u, hRCu⟩ := hst2.2 hf1
      obtain ⟨d', hd'⟩ : ∃ d', d' = ({ d with fuse := if 1 < d.fuse then d.fuse - 1 else d.fuse, steps := d.steps + 1, files := chFil d ⟨K, nm, tg, bs, N, M, keep⟩, used := u } : Dk) := ⟨_, rfl⟩
      rw [← hd'] at hRCu
      have HC := Lib.hid hRCu
      rw [hRCu] at hIc
      dsimp only at hIc
      have uf : (d.fuse == 1) = false := by simpa using hf1
      have HD := Lib.hid hd'
      have hf9 : d'.files = chFil d ⟨K, nm, tg, bs, N, M, keep⟩ := by rw [hd']
      have hss := hI.steps
      have w1 : IntKind.i64.wrap (d.steps + 1) = d.steps + 1 := by rw [IntKind.wrap_i64]; omega
      have w2 : wrap64 (d.steps + 1) = d.steps + 1 := by unfold wrap64; omega
      have KC := Lib.hid fun F W hx => KCh.out d' hIc hk5' hf9 HE.out.symm d.room F (d.steps + 1) d.read d.down W hx
      unfold ChPost at KC
      clear hst2 hRCu hd' KCh hf9
      by_cases hfg : 1 < d.fuse
      · have t9 : decide (1 < d.fuse) = true := by simpa using hfg
        have w3 : wrap64 (d.fuse - 1) = d.fuse - 1 := by unfold wrap64; omega
        have y2 := bD2.frozen 2
        have HDf : Hid (d'.fuse = d.fuse - 1) := Lib.hid (by rw [HD.out]; exact if_pos hfg)
        clear hf1
        go_upto_region 26 with fail
        have bD3 := Blk_eq (BlkS (i := 2) (u := .int .i64 (d.fuse - 1)) bD2) (cs' := #[.slice A n c, .int .i64 d.room, .int .i64 (d.fuse - 1), .bool d.down, .int .i64 d.steps, .int .i64 d.read]) rfl
        have bO3 := BlkF (p := ⟨w.heap.size, 2, none⟩) (u := .int .i64 (d.fuse - 1)) (show w.heap.size + 1 ≠ w.heap.size by omega) bO2
        have bZ3 := BlkF (p := ⟨w.heap.size, 2, none⟩) (u := .int .i64 (d.fuse - 1)) (show w.heap.size + 1 + 1 ≠ w.heap.size by omega) bZ2
        have hX3 : Ext w (World.setCell W2 ⟨w.heap.size, 2, none⟩ (.int .i64 (d.fuse - 1))) := ExtS (Nat.le_refl _) hX2
        clear bD2 bO2 bZ2 hX2
        generalize World.setCell W2 ⟨w.heap.size, 2, none⟩ (.int .i64 (d.fuse - 1)) = W3 at *
        have bD2 := bD3
        have bO2 := bO3
        have bZ2 := bZ3
        have hX2 := hX3
        clear bD3 bO3 bZ3 hX3
        have y4 := bD2.frozen 4
        have f4 := bD2.cell 4
        clear f2 y2
        go_upto_region 27 with fail
        have bD3 := Blk_eq (BlkS (i := 4) (u := .int .i64 (d.steps + 1)) bD2) (cs' := #[.slice A n c, .int .i64 d.room, .int .i64 (d.fuse - 1), .bool d.down, .int .i64 (d.steps + 1), .int .i64 d.read]) rfl
        have bO3 := BlkF (p := ⟨w.heap.size, 4, none⟩) (u := .int .i64 (d.steps + 1)) (show w.heap.size + 1 ≠ w.heap.size by omega) bO2
        have bZ3 := BlkF (p := ⟨w.heap.size, 4, none⟩) (u := .int .i64 (d.steps + 1)) (show w.heap.size + 1 + 1 ≠ w.heap.size by omega) bZ2
        have hX3 : Ext w (World.setCell W3 ⟨w.heap.size, 4, none⟩ (.int .i64 (d.steps + 1))) := ExtS (Nat.le_refl _) hX2
        clear bD2 bO2 bZ2 hX2
        generalize World.setCell W3 ⟨w.heap.size, 4, none⟩ (.int .i64 (d.steps + 1)) = W4 at *
        have bD2 := bD3
        have bO2 := bO3
        have bZ2 := bZ3
        have hX2 := hX3
        clear bD3 bO3 bZ3 hX3
        clear y4 f4 p0
        go_wp2_with (first
          | (with_reducible refine wpL_load_row rfl 28 (.tmp 2) rfl w.heap.size 28 _ 6 rfl bD2 disk_wide (dk_size _ _ _ _ _ _ _ _) ?_)
          | (with_reducible refine wpL_load_row rfl 34 (.tmp 3) rfl (w.heap.size + 1) 34 _ 7 rfl bO2 op_wide (op_size _ _ _ _ _ _ _ _ _ _ _) ?_)
          | (go_at_call 30; (with_reducible refine (KC.out _ _ hX2).mono ?_); rintro e W9 ⟨A9, n9, c9, hs9, rfl, hm9, hx9, ho9, hb9⟩; have bZ9 := BlkE bZ2 hx9)
          | (with_reducible refine wpL_store_row rfl 28 (.tmp 4) (.tmp 110) rfl (w.heap.size + 1 + 1) 28 _ _ rfl rfl bZ9 ((dk_size _ _ _ _ _ _ _ _).trans (dk_size _ _ _ _ _ _ _ _).symm) (dk_one _ _ _ _ _ _ _ _) 6 disk_wide (dk_size _ _ _ _ _ _ _ _) ?_))
        (try simp only [Exit.inBlock, Exit.then]); refine bodyPost_ret (v := .tuple #[.agg #[.slice A9 n9 c9, .int .i64 d.room, .int .i64 (d.fuse - 1), .bool d.down, .int .i64 (d.steps + 1), .int .i64 d.read], (.slice none 0 0), (.int .i64 0), (.int .i64 0)]) (res_row_ttt rfl _ (w.heap.size + 1 + 1) 28 _ 6 _ _ _ rfl rfl rfl rfl ?_ disk_wide rfl) rfl ?_
        · exact Blk.setRow_ bZ9
        · have hXf := ExtR (a := w) (g := w.heap.size + 1 + 1) (ds := #[.slice A9 n9 c9, .int .i64 d.room, .int .i64 (d.fuse - 1), .bool d.down, .int .i64 (d.steps + 1), .int .i64 d.read]) (by omega) (hX2.tr hx9)
          have hz := bZ2.lt
          have hz0 := hX2.size
          rw [HC.out]
          refine ⟨A9, n9, c9, hs9, none, 0, ?_, hm9, hXf, dofl_row bZ9 ho9, fun r hr => (hb9 r hr).imp id (fun h => by omega), World.ownsRow_nil _ _ _ _⟩
          dsimp only
          (rw [show d'.fuse = d.fuse - 1 from HDf.out, HD.out]; rfl)
      · have t9 : decide (1 < d.fuse) = false := by simpa using hfg
        have y4 := bD2.frozen 4
        have f4 := bD2.cell 4
        have HDf : Hid (d'.fuse = d.fuse) := Lib.hid (by rw [HD.out]; exact if_neg hfg)
        clear hf1
        go_upto_region 27 with fail
        have bD3 := Blk_eq (BlkS (i := 4) (u := .int .i64 (d.steps + 1)) bD2) (cs' := #[.slice A n c, .int .i64 d.room, .int .i64 d.fuse, .bool d.down, .int .i64 (d.steps + 1), .int .i64 d.read]) rfl
        have bO3 := BlkF (p := ⟨w.heap.size, 4, none⟩) (u := .int .i64 (d.steps + 1)) (show w.heap.size + 1 ≠ w.heap.size by omega) bO2
        have bZ3 := BlkF (p := ⟨w.heap.size, 4, none⟩) (u := .int .i64 (d.steps + 1)) (show w.heap.size + 1 + 1 ≠ w.heap.size by omega) bZ2
        have hX3 : Ext w (World.setCell W2 ⟨w.heap.size, 4, none⟩ (.int .i64 (d.steps + 1))) := ExtS (Nat.le_refl _) hX2
        clear bD2 bO2 bZ2 hX2
        generalize World.setCell W2 ⟨w.heap.size, 4, none⟩ (.int .i64 (d.steps + 1)) = W4 at *
        have bD2 := bD3
        have bO2 := bO3
        have bZ2 := bZ3
        have hX2 := hX3
        clear bD3 bO3 bZ3 hX3
        clear y4 f4 p0 f2
        go_wp2_with (first
          | (with_reducible refine wpL_load_row rfl 28 (.tmp 2) rfl w.heap.size 28 _ 6 rfl bD2 disk_wide (dk_size _ _ _ _ _ _ _ _) ?_)
          | (with_reducible refine wpL_load_row rfl 34 (.tmp 3) rfl (w.heap.size + 1) 34 _ 7 rfl bO2 op_wide (op_size _ _ _ _ _ _ _ _ _ _ _) ?_)
          | (go_at_call 30; (with_reducible refine (KC.out _ _ hX2).mono ?_); rintro e W9 ⟨A9, n9, c9, hs9, rfl, hm9, hx9, ho9, hb9⟩; have bZ9 := BlkE bZ2 hx9)
          | (with_reducible refine wpL_store_row rfl 28 (.tmp 4) (.tmp 110) rfl (w.heap.size + 1 + 1) 28 _ _ rfl rfl bZ9 ((dk_size _ _ _ _ _ _ _ _).trans (dk_size _ _ _ _ _ _ _ _).symm) (dk_one _ _ _ _ _ _ _ _) 6 disk_wide (dk_size _ _ _ _ _ _ _ _) ?_))
        (try simp only [Exit.inBlock, Exit.then]); refine bodyPost_ret (v := .tuple #[.agg #[.slice A9 n9 c9, .int .i64 d.room, .int .i64 d.fuse, .bool d.down, .int .i64 (d.steps + 1), .int .i64 d.read], (.slice none 0 0), (.int .i64 0), (.int .i64 0)]) (res_row_ttt rfl _ (w.heap.size + 1 + 1) 28 _ 6 _ _ _ rfl rfl rfl rfl ?_ disk_wide rfl) rfl ?_
        · exact Blk.setRow_ bZ9
        · have hXf := ExtR (a := w) (g := w.heap.size + 1 + 1) (ds := #[.slice A9 n9 c9, .int .i64 d.room, .int .i64 d.fuse, .bool d.down, .int .i64 (d.steps + 1), .int .i64 d.read]) (by omega) (hX2.tr hx9)
          have hz := bZ2.lt
          have hz0 := hX2.size
          rw [HC.out]
          refine ⟨A9, n9, c9, hs9, none, 0, ?_, hm9, hXf, dofl_row bZ9 ho9, fun r hr => (hb9 r hr).imp id (fun h => by omega), World.ownsRow_nil _ _ _ _⟩
          dsimp only
          (rw [show d'.fuse = d.fuse from HDf.out, HD.out]; rfl)
end Go.Proofs.Ytdoaniimfhpjhaa
