/-
  The document's disk: barred and change, held against the program's disk; what Do answers.
-/
/-
  The document's disk: Do.
-/
import Derived.Test.YtdoaniimfhpjhaaRfG
namespace Go.Proofs.Ytdoaniimfhpjhaa
open Go.RowKit
set_option linter.unusedVariables false
set_option linter.unusedSimpArgs false
theorem hv_fl {w : World} {B n c : Nat} {A : Option Addr} {hs : List HV} {L : List FV} (h : OwnFl w B A n c hs) (hm : hs.map (·.1) = L) : FlRd w A n L := hm ▸ h.rd
theorem sum_small {d : Dk} (h : DkInv d) : sumV (imgL d) ≤ 67108864 := by
  have h1 : d.used = (sumF d.files : Nat) := h.ok.1
  have h2 := h.ok.2
  rw [sumV_img]
  omega
theorem img_small {d : Dk} (h : DkInv d) : ∀ f ∈ imgL d, FvOk f := by
  intro f hf
  obtain ⟨g, hg, rfl⟩ := List.mem_map.1 ((img_perm d).mem_iff.1 hf)
  have h1 : g.data.length ≤ sumF d.files := le_sum_mem (List.mem_map.2 ⟨g, hg, rfl⟩)
  have h2 : d.used = (sumF d.files : Nat) := h.ok.1
  have h3 := h.ok.2
  have h4 := h.safe g hg
  refine ⟨?_, ?_, ?_⟩
  · show g.data.length ≤ _
    omega
  · exact Int.natCast_nonneg _
  · show ((g.safe : Nat) : Int) ≤ (g.data.length : Nat)
    omega
theorem rbar_any {d : Dk} (hI : DkInv d) (A : Option Addr) (n c : Nat) (K : Int) (hK : 0 ≤ K ∧ K ≤ 7) (nm tn : ByteArray) (B : Option Addr) (bl bc : Nat) (hbl : bl ≤ 140737488355328) (N M : Int) (hN : IsI64 N) (hM : IsI64 M) (AK : Option Addr) (kl kc : Nat) (w : World) (hr : FlRd w A n (imgL d)) :
    Calls Try.prog 27 #[.agg #[.slice A n c, .int .i64 d.room, .int .i64 d.fuse, .bool d.down, .int .i64 d.steps, .int .i64 d.read], .agg #[.int .i64 K, .string nm, .string tn, .slice B bl bc, .int .i64 N, .int .i64 M, .slice AK kl kc]] w
      fun e w' => e = .returned (.int .i64 (erD d K nm tn bl N M : Nat)) ∧ Ext w w' := by
  have hn : n ≤ 2000000 := by have := hr.len; rw [imgL_len] at this; have := hI.cnt; omega
  have hbe := bar_eq hI K nm tn bl N M
  by_cases hlow : d.down = true ∨ (rightB nm = false ∨ (K = 3 ∧ rightB tn = false)) ∨ K = 0 ∨ atI (imgL d) nm < 0
  · have := rbar_low A n c (imgL d) d.room d.fuse d.steps d.read d.down K nm tn B bl bc N M AK kl kc w hr hn hlow
    rw [hbe] at this
    exact this
  · have hd : d.down = false := by
      cases h : d.down
      · rfl
      · exact absurd (.inl h) hlow
    have hrn : rightB nm = true := by
      cases h : rightB nm
      · exact absurd (.inr (.inl (.inl h))) hlow
      · rfl
    have h3 : ¬ (K = 3 ∧ rightB tn = false) := fun h => hlow (.inr (.inl (.inr h)))
    have h0 : K ≠ 0 := fun h => hlow (.inr (.inr (.inl h)))
    have hat : ¬ atI (imgL d) nm < 0 := fun h => hlow (.inr (.inr (.inr h)))
    rcases at_img hI.nd nm with ⟨_, hi, _⟩ | ⟨k, f, _, hi, hk, hn2, _, hm⟩
    · rw [hi] at hat; omega
    · have hfs := (img_small hI f.fv (List.mem_of_getElem? hk)).1
      rw [hd] at hbe ⊢
      by_cases h1 : K = 1
      · subst h1
        have := rbar_one A n c (imgL d) d.room d.fuse d.steps d.read nm tn B bl bc N M AK kl kc w hr hn hrn k f.fv hi hk (sum_small hI) ⟨hI.room, hI.ok.2.2⟩ hbl
        rw [hbe] at this
        exact this
      · have := rbar_high A n c (imgL d) d.room d.fuse d.steps d.read K nm tn B bl bc N M AK kl kc w hr hn hrn h3 h0 h1 k f.fv hi hk hfs hN hM
        rw [hbe] at this
        exact this
/-- What a step makes of the document's disk. -/
theorem rchange_any {d d' : Dk} (hI : DkInv d) (hI' : DkInv d') (o : Op10) (hk : 0 ≤ o.k ∧ o.k ≤ 5) (hd' : d'.files = chFil d o) (he : erD d o.k o.name o.tgt o.b.length o.n o.m = 0) (A : Option Addr) (n c B0 : Nat) (hs0 : List HV) (hmap : hs0.map (·.1) = imgL d) (r1 r2 r4 r5 : Int) (r3 : Bool) (Bb : Option Addr) (bc : Nat) (AK : Option Addr) (kl kc : Nat) (w : World) (hr : OwnFl w B0 A n c hs0) (hB : B0 ≤ w.heap.size)
    (hbs : Rd w Bb o.b.length (u8s o.b)) :
    Calls Try.prog 30 #[.agg #[.slice A n c, .int .i64 r1, .int .i64 r2, .bool r3, .int .i64 r4, .int .i64 r5], .agg #[.int .i64 o.k, .string o.name, .string o.tgt, .slice Bb o.b.length bc, .int .i64 o.n, .int .i64 o.m, .slice AK kl kc]] w (ChPost w B0 A hs0 (imgL d') r1 r2 r4 r5 r3) := by
  have hn : n ≤ 700 := by have := hr.len; have h2 := imgL_len d; rw [← hmap, List.length_map] at h2; have := hI.cnt; omega
  obtain ⟨h1, h2, _, h4, h5, h6, h7, _⟩ := erD_open he
  by_cases h0 : o.k = 0
  · have hc := ch_img (f := ⟨o.name, [], 0⟩) hI hI' hk (fun h => by omega) hd' (fun h => absurd h0 h)
    have hc2 : putV ⟨o.name, [], 0⟩ (imgL d) = imgL d' := by rw [← hc]; unfold chV; rw [if_pos h0]
    have := rchange0 A n c B0 hs0 r1 r2 r4 r5 r3 o.name o.tgt Bb o.b.length bc o.n o.m AK kl kc w hr hB hn
    rw [hmap, hc2] at this
    rw [h0]
    exact this
  · rcases at_img hI.nd o.name with ⟨ha, _, _⟩ | ⟨k, f, _, hi, hkk, hn2, hg, hm⟩
    · rw [h5 h0] at ha; cases ha
    · have hlf : lenF d o.name = f.data.length := by unfold lenF; rw [hg]; rfl
      rw [hlf] at h7
      have hc := ch_img (f := f) hI hI' hk (fun h => by have := h7 h; omega) hd' (fun _ => hg)
      have := rchangeK o.k (by omega) A n c B0 hs0 r1 r2 r4 r5 r3 o.name o.tgt Bb o.b.length bc o.b o.n o.m AK kl kc o.keep w hr hB hn k f.fv (by rw [hmap]; exact hi) (by rw [hmap]; exact hkk) hn2 (img_small hI _ (List.mem_of_getElem? hkk)) hbs (fun h => by have h9 := h6 h; have ha := hI.ok.2; have hb : d.used = (sumF d.files : Nat) := hI.ok.1; omega) (fun h => by have := h7 h; exact ⟨by omega, by show o.n ≤ (f.data.length : Nat); omega⟩)
      rw [hmap, show (⟨o.k, o.name, o.tgt, o.b, o.n, o.m, o.keep⟩ : Op10) = o from rfl, hc] at this
      exact this
/-- What Do answers. -/
def DoPost (w : World) (B0 : Nat) (A : Option Addr) (hs0 : List HV) (r : Dk × List UInt8 × Nat × Nat) (e : Ending) (w' : World) : Prop :=
  ∃ A' n' c' hs Ab cb, e = .returned (.tuple #[.agg #[.slice A' n' c', .int .i64 r.1.room, .int .i64 r.1.fuse, .bool r.1.down, .int .i64 r.1.steps, .int .i64 r.1.read], .slice Ab r.2.1.length cb, .int .i64 (r.2.2.1 : Nat), .int .i64 (r.2.2.2 : Nat)]) ∧ hs.map (·.1) = imgL r.1 ∧ Ext w w' ∧ OwnFl w' B0 A' n' c' hs ∧ (∀ r, hvB A' hs r → hvB A hs0 r ∨ w.heap.size ≤ r) ∧ w'.ownsRow w.heap.size 5 1 (.slice Ab r.2.1.length cb) r.2.1.length (u8s r.2.1)
theorem res_row_ttt {P : Program} {w : World} {fn : Func} {p u v x : Tmp} {ty : TypeId} (h : fn.results = #[.cell p ty, .tmp u, .tmp v, .tmp x]) (tmps : Array Value) (g : Nat) (t : TypeId) (cs : Array Value) (n : Nat) (a b c : Value)
    (hp : tmps.getD p undef = .pointer (some ⟨g, 0, none⟩)) (hu : tmps.getD u undef = a) (hv : tmps.getD v undef = b) (hx : tmps.getD x undef = c) (hb : Blk w g t cs) (hw : Wide P ty n) (hn : cs.size = n) : (results fn tmps).run P w = .ok (.tuple #[.agg cs, a, b, c]) w := by
  have hp' : tmps[p]?.getD undef = .pointer (some ⟨g, 0, none⟩) := by simpa using hp
  have hu' : tmps[u]?.getD undef = a := by simpa using hu
  have hv' : tmps[v]?.getD undef = b := by simpa using hv
  have hx' : tmps[x]?.getD undef = c := by simpa using hx
  simp [results, h, hp', hu', hv', hx', asAddr, run_loadVar_blk hb hw hn]
end Go.Proofs.Ytdoaniimfhpjhaa

namespace Go.Proofs.Ytdoaniimfhpjhaa
open Go.RowKit
set_option linter.unusedVariables false
set_option linter.unusedSimpArgs false
theorem op_size (K : Int) (nm tg : ByteArray) (Bb : Option Addr) (bl bc : Nat) (N M : Int) (AK : Option Addr) (kl kc : Nat) : (#[.int .i64 K, .string nm, .string tg, .slice Bb bl bc, .int .i64 N, .int .i64 M, .slice AK kl kc] : Array Value).size = 7 := rfl
/-- The frame of Do: the two boxes, the answer's. -/
structure DoW (w W : World) (dk op : Array Value) : Prop where
  ext : Ext w W
  dk : Blk W w.heap.size 28 dk
  op : Blk W (w.heap.size + 1) 34 op
  z : ∃ cs, Blk W (w.heap.size + 1 + 1) 28 cs ∧ cs.size = 6
set_option maxRecDepth 100000 in
set_option maxHeartbeats 4000000 in
theorem do_low {d : Dk} (hI : DkInv d) (o : Op10) (hk : o.k < 0 ∨ 7 < o.k) (A : Option Addr) (n c B0 : Nat) (hs0 : List HV) (hmap : hs0.map (·.1) = imgL d) (Bb : Option Addr) (bc : Nat) (AK : Option Addr) (kc : Nat) (w : World) (hr : OwnFl w B0 A n c hs0) (hB : B0 ≤ w.heap.size) (hn64 : IsI64 o.n)
    (hke : Rd w AK o.keep.length (ints o.keep)) (hkb : o.keep.length * 8 ≤ 140737488351232) (hki : ∀ x ∈ o.keep, IsI64 x) :
    Calls Try.prog 9 #[.agg #[.slice A n c, .int .i64 d.room, .int .i64 d.fuse, .bool d.down, .int .i64 d.steps, .int .i64 d.read], .agg #[.int .i64 o.k, .string o.name, .string o.tgt, .slice Bb o.b.length bc, .int .i64 o.n, .int .i64 o.m, .slice AK o.keep.length kc]] w (DoPost w B0 A hs0 (callD d o)) := by
  have hl0 := hr.len
  have hnn : n ≤ 700 := by have h2 := imgL_len d; rw [← hmap, List.length_map] at h2; have := hI.cnt; omega
  obtain ⟨K, nm, tg, bs, N, M, keep⟩ := o
  dsimp only at *
  obtain ⟨kl, hkl⟩ : ∃ kl, kl = keep.length := ⟨_, rfl⟩
  obtain ⟨bl, hbl⟩ : ∃ bl, bl = bs.length := ⟨_, rfl⟩
  rw [← hkl] at hke hkb ⊢
  rw [← hbl]
  by_cases h8 : K = 8
  · subst h8
    have KR := Lib.hid fun W (hx : Ext w W) => rrestart_any A n c B0 hs0 d.room d.fuse d.steps d.read d.down AK kl kc keep W (hr.ext hx) (by omega) (fun h hh => img_small hI h.1 (by rw [← hmap]; exact List.mem_map.2 ⟨h, hh, rfl⟩)) (hke.ext hx) hki (by omega)
    have him := img_restart (d := d) keep (inv_restart hI keep)
    rw [hmap, him] at KR
    have hcall : callD d ⟨8, nm, tg, bs, N, M, keep⟩ = (restartD d keep, [], 0, 0) := by simp [callD]
    rw [hcall]
    have Hm := Lib.hid hmap
    clear hr hke hmap hcall him hkl hbl
    go_enter Try.func9, Try.ntmps9
    go_wp2_with (first
      | (with_reducible refine wpL_load_row rfl 28 (.tmp 2) rfl w.heap.size 28 _ 6 rfl (BlkA (BlkA (BlkN rfl))) disk_wide (dk_size _ _ _ _ _ _ _ _) ?_)
      | (go_at_call 26; (with_reducible refine (KR.out _ (by repeat (first | with_reducible exact Below.refl _ _ | with_reducible assumption | with_reducible refine ExtD ?_ | with_reducible refine ExtDN ?_ | with_reducible refine ExtA ?_ | (with_reducible refine ExtR ?_ ?_; (first | omega | (dsimp only; omega) | (simp; done) | (simp; omega))) | (with_reducible refine ExtS ?_ ?_; (first | omega | (dsimp only; omega) | (simp; done) | (simp; omega))) | with_reducible refine Ext.tr ?_ (by with_reducible assumption)))).mono ?_); rintro e w2 ⟨A2, c2, hs, rfl, hm2, hx2, ho2⟩; have bz : Blk w2 (w.heap.size + 1 + 1) 28 #[.slice none 0 0, .int .i64 0, .int .i64 0, .bool false, .int .i64 0, .int .i64 0] := BlkE (BlkN (by simp)) hx2)
      | (with_reducible refine wpL_store_row rfl 28 (.tmp 4) (.tmp 15) rfl (w.heap.size + 1 + 1) 28 _ _ rfl rfl bz ((dk_size _ _ _ _ _ _ _ _).trans (dk_size _ _ _ _ _ _ _ _).symm) (dk_one _ _ _ _ _ _ _ _) 6 disk_wide (dk_size _ _ _ _ _ _ _ _) ?_))
    (try simp only [Exit.inBlock, Exit.then]); refine bodyPost_ret (v := .tuple #[.agg #[.slice A2 n c2, .int .i64 d.room, .int .i64 0, .bool false, .int .i64 d.steps, .int .i64 d.read], (.slice none 0 0), (.int .i64 0), (.int .i64 0)]) (res_row_ttt rfl _ (w.heap.size + 1 + 1) 28 _ 6 _ _ _ rfl rfl rfl rfl ?_ disk_wide rfl) rfl ?_
    · exact Blk.setRow_ bz
    · have hx2' : Ext w w2 := (ExtA (ExtA (ExtA (Ext.rfl' w)))).tr hx2
      have hz2 : w.heap.size + 1 + 1 + 1 ≤ w2.heap.size := by have := hx2.size; simpa using this
      exact ⟨A2, n, c2, hs, none, 0, rfl, hm2, ExtR (by omega) hx2', (ownfl_row (by simp) ho2).low (by simp; omega), fun r hr => .inr (by
        rcases hr with hr | ⟨y, hy, hr⟩
        · have := own_new_blk ho2.1 hr; simp at this; omega
        · have := own_new_blk (ho2.2 y hy) hr; simp at this; omega), World.ownsRow_nil _ _ _ _⟩
  · have HR := Lib.hid hr
    have Hm := Lib.hid hmap
    have q8 : (K == 8) = false := by simpa using h8
    have hK64 : K < 0 ∨ 7 < K := hk
    obtain ⟨RC, hRC⟩ : ∃ RC, RC = callD d ⟨K, nm, tg, bs, N, M, keep⟩ := ⟨_, rfl⟩
    rw [← hRC]
    have HRC := Lib.hid hRC
    clear hr hmap hke hkl hbl hk hRC
    go_enter Try.func9, Try.ntmps9
    go_upto_region 1 with fail
    obtain ⟨W1, hW1⟩ : ∃ W1, W1 = ((w.alloc (.cells #[.slice A n c, .int .i64 d.room, .int .i64 d.fuse, .bool d.down, .int .i64 d.steps, .int .i64 d.read] 28)).alloc (.cells #[.int .i64 K, .string nm, .string tg, .slice Bb bl bc, .int .i64 N, .int .i64 M, .slice AK kl kc] 34)).alloc (.cells #[.slice none 0 0, .int .i64 0, .int .i64 0, .bool false, .int .i64 0, .int .i64 0] 28) := ⟨_, rfl⟩
    have bD : Blk W1 w.heap.size 28 #[.slice A n c, .int .i64 d.room, .int .i64 d.fuse, .bool d.down, .int .i64 d.steps, .int .i64 d.read] := by rw [hW1]; exact BlkA (BlkA (BlkN rfl))
    have bZ : Blk W1 (w.heap.size + 1 + 1) 28 #[.slice none 0 0, .int .i64 0, .int .i64 0, .bool false, .int .i64 0, .int .i64 0] := by rw [hW1]; exact BlkN (by simp)
    have bO : Blk W1 (w.heap.size + 1) 34 #[.int .i64 K, .string nm, .string tg, .slice Bb bl bc, .int .i64 N, .int .i64 M, .slice AK kl kc] := by rw [hW1]; exact BlkA (BlkN (by simp))
    have hX1 : Ext w W1 := by rw [hW1]; exact ExtA (ExtA (ExtA (Ext.rfl' w)))
    rw [← hW1]
    clear hW1
    have o0 := bO.cell 0
    have o4 := bO.cell 4
    by_cases h9 : K = 9
    · subst h9
      have hcall : callD d ⟨9, nm, tg, bs, N, M, keep⟩ = ({ d with fuse := max 0 N }, [], 0, 0) := by simp [callD]
      have HC := Lib.hid (HRC.out.trans hcall)
      have y2 := bD.frozen 2
      have c2 := bD.cell 2
      clear hcall
      go_upto_region 5 with fail
      have bD3 := Blk_eq (BlkS (i := 2) (u := .int .i64 0) bD) (cs' := #[.slice A n c, .int .i64 d.room, .int .i64 0, .bool d.down, .int .i64 d.steps, .int .i64 d.read]) rfl
      have bO3 := BlkF (p := ⟨w.heap.size, 2, none⟩) (u := .int .i64 0) (show w.heap.size + 1 ≠ w.heap.size by omega) bO
      have bZ3 := BlkF (p := ⟨w.heap.size, 2, none⟩) (u := .int .i64 0) (show w.heap.size + 1 + 1 ≠ w.heap.size by omega) bZ
      have hX3 : Ext w (W1.setCell ⟨w.heap.size, 2, none⟩ (.int .i64 0)) := ExtS (Nat.le_refl _) hX1
      generalize W1.setCell ⟨w.heap.size, 2, none⟩ (.int .i64 0) = W3 at *
      have p4 := bO3.cell 4
      clear o0 o4 y2 c2 bD bO bZ hX1
      by_cases hN : 0 < N
      · have t1 : decide (0 < N) = true := by simpa using hN
        have y2 := bD3.frozen 2
        have c2 := bD3.cell 2
        go_upto_region 7 with fail
        have bD4 := Blk_eq (BlkS (i := 2) (u := .int .i64 N) bD3) (cs' := #[.slice A n c, .int .i64 d.room, .int .i64 N, .bool d.down, .int .i64 d.steps, .int .i64 d.read]) rfl
        have bZ4 := BlkF (p := ⟨w.heap.size, 2, none⟩) (u := .int .i64 N) (show w.heap.size + 1 + 1 ≠ w.heap.size by omega) bZ3
        clear p4 y2 c2
        go_wp2_with (first | (with_reducible refine wpL_load_row rfl 28 (.tmp 2) rfl w.heap.size 28 _ 6 rfl bD4 disk_wide (dk_size _ _ _ _ _ _ _ _) ?_) | (with_reducible refine wpL_store_row rfl 28 (.tmp 4) (.tmp 26) rfl (w.heap.size + 1 + 1) 28 _ _ rfl rfl bZ4 ((dk_size _ _ _ _ _ _ _ _).trans (dk_size _ _ _ _ _ _ _ _).symm) (dk_one _ _ _ _ _ _ _ _) 6 disk_wide (dk_size _ _ _ _ _ _ _ _) ?_))
        (try simp only [Exit.inBlock, Exit.then]); refine bodyPost_ret (v := .tuple #[.agg #[.slice A n c, .int .i64 d.room, .int .i64 N, .bool d.down, .int .i64 d.steps, .int .i64 d.read], (.slice none 0 0), (.int .i64 0), (.int .i64 0)]) (res_row_ttt rfl _ (w.heap.size + 1 + 1) 28 _ 6 _ _ _ rfl rfl rfl rfl ?_ disk_wide rfl) rfl ?_
        · exact Blk.setRow_ bZ4
        · have hXf := ExtR (a := w) (g := w.heap.size + 1 + 1) (ds := #[.slice A n c, .int .i64 d.room, .int .i64 N, .bool d.down, .int .i64 d.steps, .int .i64 d.read]) (by omega) (ExtS (p := ⟨w.heap.size, 2, none⟩) (v := .int .i64 N) (Nat.le_refl _) hX3)
          rw [HC.out]
          exact ⟨A, n, c, hs0, none, 0, by dsimp only; rw [show max 0 N = N by omega]; rfl, Hm.out, hXf, HR.out.ext hXf, fun r hr => .inl hr, World.ownsRow_nil _ _ _ _⟩
      · have t1 : decide (0 < N) = false := by simpa using hN
        go_upto_region 7 with fail
        clear p4
        go_wp2_with (first | (with_reducible refine wpL_load_row rfl 28 (.tmp 2) rfl w.heap.size 28 _ 6 rfl bD3 disk_wide (dk_size _ _ _ _ _ _ _ _) ?_) | (with_reducible refine wpL_store_row rfl 28 (.tmp 4) (.tmp 26) rfl (w.heap.size + 1 + 1) 28 _ _ rfl rfl bZ3 ((dk_size _ _ _ _ _ _ _ _).trans (dk_size _ _ _ _ _ _ _ _).symm) (dk_one _ _ _ _ _ _ _ _) 6 disk_wide (dk_size _ _ _ _ _ _ _ _) ?_))
        (try simp only [Exit.inBlock, Exit.then]); refine bodyPost_ret (v := .tuple #[.agg #[.slice A n c, .int .i64 d.room, .int .i64 0, .bool d.down, .int .i64 d.steps, .int .i64 d.read], (.slice none 0 0), (.int .i64 0), (.int .i64 0)]) (res_row_ttt rfl _ (w.heap.size + 1 + 1) 28 _ 6 _ _ _ rfl rfl rfl rfl ?_ disk_wide rfl) rfl ?_
        · exact Blk.setRow_ bZ3
        · have hXf := ExtR (a := w) (g := w.heap.size + 1 + 1) (ds := #[.slice A n c, .int .i64 d.room, .int .i64 0, .bool d.down, .int .i64 d.steps, .int .i64 d.read]) (by omega) hX3
          rw [HC.out]
          exact ⟨A, n, c, hs0, none, 0, by dsimp only; rw [show max 0 N = 0 by omega]; rfl, Hm.out, hXf, HR.out.ext hXf, fun r hr => .inl hr, World.ownsRow_nil _ _ _ _⟩
    · have q9 : (K == 9) = false := by simpa using h9
      have hcall : callD d ⟨K, nm, tg, bs, N, M, keep⟩ = (d, [], 0, 0) := by
        unfold callD
        dsimp only
        rw [if_neg (by omega), if_neg (by omega), if_neg (by omega), if_neg (by omega), if_neg (by omega), if_neg (by omega), if_neg (by omega), if_neg (by omega), if_neg h8, if_neg h9]
      have HC := Lib.hid (HRC.out.trans hcall)
      clear hcall
      by_cases hK0 : K < 0
      · have t1 : decide (K < 0) = true := by simpa using hK0
        go_wp2_with (first | (with_reducible refine wpL_load_row rfl 28 (.tmp 2) rfl w.heap.size 28 _ 6 rfl bD disk_wide (dk_size _ _ _ _ _ _ _ _) ?_) | (with_reducible refine wpL_store_row rfl 28 (.tmp 4) (.tmp 35) rfl (w.heap.size + 1 + 1) 28 _ _ rfl rfl bZ ((dk_size _ _ _ _ _ _ _ _).trans (dk_size _ _ _ _ _ _ _ _).symm) (dk_one _ _ _ _ _ _ _ _) 6 disk_wide (dk_size _ _ _ _ _ _ _ _) ?_))
        (try simp only [Exit.inBlock, Exit.then]); refine bodyPost_ret (v := .tuple #[.agg #[.slice A n c, .int .i64 d.room, .int .i64 d.fuse, .bool d.down, .int .i64 d.steps, .int .i64 d.read], (.slice none 0 0), (.int .i64 0), (.int .i64 0)]) (res_row_ttt rfl _ (w.heap.size + 1 + 1) 28 _ 6 _ _ _ rfl rfl rfl rfl ?_ disk_wide rfl) rfl ?_
        · exact Blk.setRow_ bZ
        · have hXf := ExtR (a := w) (g := w.heap.size + 1 + 1) (ds := #[.slice A n c, .int .i64 d.room, .int .i64 d.fuse, .bool d.down, .int .i64 d.steps, .int .i64 d.read]) (by omega) hX1
          rw [HC.out]
          exact ⟨A, n, c, hs0, none, 0, rfl, Hm.out, hXf, HR.out.ext hXf, fun r hr => .inl hr, World.ownsRow_nil _ _ _ _⟩
      · have t1 : decide (K < 0) = false := by simpa using hK0
        have t2 : decide (9 < K) = true := by simp; omega
        go_wp2_with (first | (with_reducible refine wpL_load_row rfl 28 (.tmp 2) rfl w.heap.size 28 _ 6 rfl bD disk_wide (dk_size _ _ _ _ _ _ _ _) ?_) | (with_reducible refine wpL_store_row rfl 28 (.tmp 4) (.tmp 35) rfl (w.heap.size + 1 + 1) 28 _ _ rfl rfl bZ ((dk_size _ _ _ _ _ _ _ _).trans (dk_size _ _ _ _ _ _ _ _).symm) (dk_one _ _ _ _ _ _ _ _) 6 disk_wide (dk_size _ _ _ _ _ _ _ _) ?_))
        (try simp only [Exit.inBlock, Exit.then]); refine bodyPost_ret (v := .tuple #[.agg #[.slice A n c, .int .i64 d.room, .int .i64 d.fuse, .bool d.down, .int .i64 d.steps, .int .i64 d.read], (.slice none 0 0), (.int .i64 0), (.int .i64 0)]) (res_row_ttt rfl _ (w.heap.size + 1 + 1) 28 _ 6 _ _ _ rfl rfl rfl rfl ?_ disk_wide rfl) rfl ?_
        · exact Blk.setRow_ bZ
        · have hXf := ExtR (a := w) (g := w.heap.size + 1 + 1) (ds := #[.slice A n c, .int .i64 d.room, .int .i64 d.fuse, .bool d.down, .int .i64 d.steps, .int .i64 d.read]) (by omega) hX1
          rw [HC.out]
          exact ⟨A, n, c, hs0, none, 0, rfl, Hm.out, hXf, HR.out.ext hXf, fun r hr => .inl hr, World.ownsRow_nil _ _ _ _⟩
end Go.Proofs.Ytdoaniimfhpjhaa
