/-
  The document's disk: barred and change, held against the program's disk; what Do answers.
-/
import Derived.Test.YtdoaniimfhpjhaaRfG
namespace Go.Proofs.Ytdoaniimfhpjhaa
open Go.RowKit
set_option linter.unusedVariables false
set_option linter.unusedSimpArgs false
theorem hv_fl {w : World} {B n c : Nat} {A : Option Addr} {hs : List HV} {L : List FV} (h : OwnFl w B A n c hs) (hm : hs.map (·.1) = L) : FlRd w A n L := hm ▸ h.rd
theorem sum_small {d : Dk} (h : DkInv d) : sumV (imgL d) ≤ 67108864 := by
  have h1 : d.used = (sumF d.files : Nat) := h.ok.1
  have h2 := h.ok.2
  rw [sumV_img]
  omega
theorem img_small {d : Dk} (h : DkInv d) : ∀ f ∈ imgL d, FvOk f := by
  intro f hf
  obtain ⟨g, hg, rfl⟩ := List.mem_map.1 ((img_perm d).mem_iff.1 hf)
  have h1 : g.data.length ≤ sumF d.files := le_sum_mem (List.mem_map.2 ⟨g, hg, rfl⟩)
  have h2 : d.used = (sumF d.files : Nat) := h.ok.1
  have h3 := h.ok.2
  have h4 := h.safe g hg
  refine ⟨?_, ?_, ?_⟩
  · show g.data.length ≤ _
    omega
  · exact Int.natCast_nonneg _
  · show ((g.safe : Nat) : Int) ≤ (g.data.length : Nat)
    omega
theorem rbar_any {d : Dk} (hI : DkInv d) (A : Option Addr) (n c : Nat) (K : Int) (hK : 0 ≤ K ∧ K ≤ 7) (nm tn : ByteArray) (B : Option Addr) (bl bc : Nat) (hbl : bl ≤ 140737488355328) (N M : Int) (hN : IsI64 N) (hM : IsI64 M) (AK : Option Addr) (kl kc : Nat) (w : World) (hr : FlRd w A n (imgL d)) :
    Calls Try.prog 27 #[.agg #[.slice A n c, .int .i64 d.room, .int .i64 d.fuse, .bool d.down, .int .i64 d.steps, .int .i64 d.read], .agg #[.int .i64 K, .string nm, .string tn, .slice B bl bc, .int .i64 N, .int .i64 M, .slice AK kl kc]] w
      fun e w' => e = .returned (.int .i64 (erD d K nm tn bl N M : Nat)) ∧ Ext w w' := by
  have hn : n ≤ 2000000 := by have := hr.len; rw [imgL_len] at this; have := hI.cnt; omega
  have hbe := bar_eq hI K nm tn bl N M
  by_cases hlow : d.down = true ∨ (rightB nm = false ∨ (K = 3 ∧ rightB tn = false)) ∨ K = 0 ∨ atI (imgL d) nm < 0
  · have := rbar_low A n c (imgL d) d.room d.fuse d.steps d.read d.down K nm tn B bl bc N M AK kl kc w hr hn hlow
    rw [hbe] at this
    exact this
  · have hd : d.down = false := by
      cases h : d.down
      · rfl
      · exact absurd (.inl h) hlow
    have hrn : rightB nm = true := by
      cases h : rightB nm
      · exact absurd (.inr (.inl (.inl h))) hlow
      · rfl
    have h3 : ¬ (K = 3 ∧ rightB tn = false) := fun h => hlow (.inr (.inl (.inr h)))
    have h0 : K ≠ 0 := fun h => hlow (.inr (.inr (.inl h)))
    have hat : ¬ atI (imgL d) nm < 0 := fun h => hlow (.inr (.inr (.inr h)))
    rcases at_img hI.nd nm with ⟨_, hi, _⟩ | ⟨k, f, _, hi, hk, hn2, _, hm⟩
    · rw [hi] at hat; omega
    · have hfs := (img_small hI f.fv (List.mem_of_getElem? hk)).1
      rw [hd] at hbe ⊢
      by_cases h1 : K = 1
      · subst h1
        have := rbar_one A n c (imgL d) d.room d.fuse d.steps d.read nm tn B bl bc N M AK kl kc w hr hn hrn k f.fv hi hk (sum_small hI) ⟨hI.room, hI.ok.2.2⟩ hbl
        rw [hbe] at this
        exact this
      · have := rbar_high A n c (imgL d) d.room d.fuse d.steps d.read K nm tn B bl bc N M AK kl kc w hr hn hrn h3 h0 h1 k f.fv hi hk hfs hN hM
        rw [hbe] at this
        exact this
/-- What a step makes of the document's disk. -/
theorem rchange_any {d d' : Dk} (hI : DkInv d) (hI' : DkInv d') (o : Op10) (hk : 0 ≤ o.k ∧ o.k ≤ 5) (hd' : d'.files = chFil d o) (he : erD d o.k o.name o.tgt o.b.length o.n o.m = 0) (A : Option Addr) (n c B0 : Nat) (hs0 : List HV) (hmap : hs0.map (·.1) = imgL d) (r1 r2 r4 r5 : Int) (r3 : Bool) (Bb : Option Addr) (bc : Nat) (AK : Option Addr) (kl kc : Nat) (w : World) (hr : OwnFl w B0 A n c hs0) (hB : B0 ≤ w.heap.size)
    (hbs : Rd w Bb o.b.length (u8s o.b)) :
    Calls Try.prog 30 #[.agg #[.slice A n c, .int .i64 r1, .int .i64 r2, .bool r3, .int .i64 r4, .int .i64 r5], .agg #[.int .i64 o.k, .string o.name, .string o.tgt, .slice Bb o.b.length bc, .int .i64 o.n, .int .i64 o.m, .slice AK kl kc]] w (ChPost w B0 A hs0 (imgL d') r1 r2 r4 r5 r3) := by
  have hn : n ≤ 700 := by have := hr.len; have h2 := imgL_len d; rw [← hmap, List.length_map] at h2; have := hI.cnt; omega
  obtain ⟨h1, h2, _, h4, h5, h6, h7, _⟩ := erD_open he
  by_cases h0 : o.k = 0
  · have hc := ch_img (f := ⟨o.name, [], 0⟩) hI hI' hk (fun h => by omega) hd' (fun h => absurd h0 h)
    have hc2 : putV ⟨o.name, [], 0⟩ (imgL d) = imgL d' := by rw [← hc]; unfold chV; rw [if_pos h0]
    have := rchange0 A n c B0 hs0 r1 r2 r4 r5 r3 o.name o.tgt Bb o.b.length bc o.n o.m AK kl kc w hr hB hn
    rw [hmap, hc2] at this
    rw [h0]
    exact this
  · rcases at_img hI.nd o.name with ⟨ha, _, _⟩ | ⟨k, f, _, hi, hkk, hn2, hg, hm⟩
    · rw [h5 h0] at ha; cases ha
    · have hlf : lenF d o.name = f.data.length := by unfold lenF; rw [hg]; rfl
      rw [hlf] at h7
      have hc := ch_img (f := f) hI hI' hk (fun h => by have := h7 h; omega) hd' (fun _ => hg)
      have := rchangeK o.k (by omega) A n c B0 hs0 r1 r2 r4 r5 r3 o.name o.tgt Bb o.b.length bc o.b o.n o.m AK kl kc o.keep w hr hB hn k f.fv (by rw [hmap]; exact hi) (by rw [hmap]; exact hkk) hn2 (img_small hI _ (List.mem_of_getElem? hkk)) hbs (fun h => by have h9 := h6 h; have ha := hI.ok.2; have hb : d.used = (sumF d.files : Nat) := hI.ok.1; omega) (fun h => by have := h7 h; exact ⟨by omega, by show o.n ≤ (f.data.length : Nat); omega⟩)
      rw [hmap, show (⟨o.k, o.name, o.tgt, o.b, o.n, o.m, o.keep⟩ : Op10) = o from rfl, hc] at this
      exact this
/-- What Do answers. -/
def DoPost (w : World) (B0 : Nat) (A : Option Addr) (hs0 : List HV) (r : Dk × List UInt8 × Nat × Nat) (e : Ending) (w' : World) : Prop :=
  ∃ A' n' c' hs Ab cb, e = .returned (.tuple #[.agg #[.slice A' n' c', .int .i64 r.1.room, .int .i64 r.1.fuse, .bool r.1.down, .int .i64 r.1.steps, .int .i64 r.1.read], .slice Ab r.2.1.length cb, .int .i64 (r.2.2.1 : Nat), .int .i64 (r.2.2.2 : Nat)]) ∧ hs.map (·.1) = imgL r.1 ∧ Ext w w' ∧ OwnFl w' B0 A' n' c' hs ∧ (∀ r, hvB A' hs r → hvB A hs0 r ∨ w.heap.size ≤ r) ∧ w'.ownsRow w.heap.size 5 1 (.slice Ab r.2.1.length cb) r.2.1.length (u8s r.2.1)
theorem res_row_ttt {P : Program} {w : World} {fn : Func} {p u v x : Tmp} {ty : TypeId} (h : fn.results = #[.cell p ty, .tmp u, .tmp v, .tmp x]) (tmps : Array Value) (g : Nat) (t : TypeId) (cs : Array Value) (n : Nat) (a b c : Value)
    (hp : tmps.getD p undef = .pointer (some ⟨g, 0, none⟩)) (hu : tmps.getD u undef = a) (hv : tmps.getD v undef = b) (hx : tmps.getD x undef = c) (hb : Blk w g t cs) (hw : Wide P ty n) (hn : cs.size = n) : (results fn tmps).run P w = .ok (.tuple #[.agg cs, a, b, c]) w := by
  have hp' : tmps[p]?.getD undef = .pointer (some ⟨g, 0, none⟩) := by simpa using hp
  have hu' : tmps[u]?.getD undef = a := by simpa using hu
  have hv' : tmps[v]?.getD undef = b := by simpa using hv
  have hx' : tmps[x]?.getD undef = c := by simpa using hx
  simp [results, h, hp', hu', hv', hx', asAddr, run_loadVar_blk hb hw hn]
end Go.Proofs.Ytdoaniimfhpjhaa
