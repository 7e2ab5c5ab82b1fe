/-
  The walks of tlv.Must and of the law's mustOf.
-/
import Derived.Test.YtcekdfhbbfednaaFsX
import Derived.Defers
import Derived.Recover
namespace Go.Proofs.Ytcekdfhbbfednaa
open Go.RowKit
set_option linter.unusedVariables false
set_option linter.unusedSimpArgs false
def ErrPanic (e : Nat) : Ending := .panicked [{ v := .iface 24 (.int .i64 (e : Nat)), recovered := false }]
set_option maxRecDepth 100000 in
set_option maxHeartbeats 1000000 in
theorem must_ok (A : Option Addr) (n c : Nat) (fs : List Fld) (w : World) (hr : FsRd w A n fs) (hw : FWf fs) (hn : n ≤ maxLen) (h0 : encE fs = 0) :
    Calls Try.prog 39 #[.slice A n c] w (NewB w (encR fs)) := by
  have h := tenc_any A n c fs w hr hw hn
  have H0 := Lib.hid h0
  have H := Lib.hid h
  clear h h0
  go_enter Try.func39, Try.ntmps39
  go_wp2_with (go_at_call 17; go_must (with_reducible refine (H.out).mono ?_); rintro e w1 ⟨A1, c1, rfl, hx1, hown1⟩; have h0 := H0.out; rw [h0])
  go_ret
  exact ⟨A1, c1, rfl, hx1, hown1⟩
set_option maxRecDepth 100000 in
set_option maxHeartbeats 1000000 in
theorem must_bad (A : Option Addr) (n c : Nat) (fs : List Fld) (w : World) (hr : FsRd w A n fs) (hw : FWf fs) (hn : n ≤ maxLen) (h0 : encE fs ≠ 0) :
    Calls Try.prog 39 #[.slice A n c] w fun e w' => e = ErrPanic (encE fs) ∧ Ext w w' := by
  have h := tenc_any A n c fs w hr hw hn
  have H := Lib.hid h
  clear h
  obtain ⟨E, hE⟩ : ∃ E, E = encE fs := ⟨_, rfl⟩
  rw [← hE] at h0 ⊢
  have HE := Lib.hid hE
  have t0 : ((E : Int) != 0) = true := by simp; exact h0
  clear hE h0
  go_enter Try.func39, Try.ntmps39
  go_wp2_with (go_at_call 17; go_must (with_reducible refine (H.out).mono ?_); rintro e w1 ⟨A1, c1, rfl, hx1, hown1⟩; rw [← HE.out])
  exact ⟨rfl, rfl, hx1⟩
set_option maxRecDepth 100000 in
set_option maxHeartbeats 1000000 in
theorem mcatch_panic (p q : Addr) (vp vq : Value) (x : Int) (older : List PanicEntry) (w : World) (hp : w.cell? p = some vp) (hq : w.cell? q = some vq) (fp : w.frozen? p = false) (fq : w.frozen? q = false) (hpq : ¬ p = q) :
    CallsD Try.prog 38 #[.pointer (some p), .pointer (some q)] (.panicking ({ v := .iface 24 (.int .i64 x), recovered := false } :: older)) w fun e u' w' =>
      e = .returned (.tuple #[]) ∧ u' = .panicking ({ v := .iface 24 (.int .i64 x), recovered := true } :: older) ∧ w' = (w.setCell p (.slice none 0 0)).setCell q (.int .i64 x) := by
  have hq2 : (w.setCell p (.slice none 0 0)).cell? q = some vq := by rw [World.cell?_setCell_other _ _ _ _ hpq]; exact hq
  have hta : ∀ (x : Int) (w : World), (Instr.typeAssert (.iface 24 (.int .i64 x)) 20 24 true).run Try.prog w = .ok (.tuple #[.int .i64 x, .bool true]) w := fun _ _ => by kernel_rfl
  refine callsD_of_wpS Try.func38 rfl fun c₀ cs hu => ?_
  apply wpS_seq
  apply wpS_region
  simp [wpOpsS, go_sem, recoverD, hu, Try.ntmps38, Exit.thenS]
  refine wpS_of_wp ?_
  change Code.wp _ _ _ ⟨#[.pointer (some p), .pointer (some q), .iface 24 (.int .i64 x), undef, undef, .iface 24 (.int .i64 x), undef, undef, undef, undef, undef, undef, undef, undef, undef, undef], []⟩ w
  go_wp2_with fail
  simp [bodyPostS, results, Try.results38]
set_option maxRecDepth 100000 in
set_option maxHeartbeats 1000000 in
theorem mcatch_idle (p q : Addr) (w : World) :
    CallsD Try.prog 38 #[.pointer (some p), .pointer (some q)] .returning w fun e u' w' => e = .returned (.tuple #[]) ∧ u' = .returning ∧ w' = w := by
  refine callsD_of_wpS Try.func38 rfl fun c₀ cs hu => ?_
  apply wpS_seq
  apply wpS_region
  simp [wpOpsS, go_sem, recoverD, hu, Try.ntmps38, Exit.thenS]
  refine wpS_of_wp ?_
  change Code.wp _ _ _ ⟨#[.pointer (some p), .pointer (some q), .nilIface, undef, undef, .nilIface, undef, undef, undef, undef, undef, undef, undef, undef, undef, undef], []⟩ w
  go_wp2_with fail
  cases c₀
  simp_all [bodyPostS, results, Try.results38]
theorem load_cell {P : Program} {w : World} {ty : TypeId} {d : TypeDesc} {a : Addr} {v : Value} (hu : P.underlying ty = some d) (hd : d.isRow = false) (hc : w.cell? a = some v) : (loadVar ty a).run P w = .ok v w := by
  have hagg : (isAgg ty).run P w = .ok false w := by
    unfold isAgg
    rw [Sem.run_bind, run_underlying hu w]
    cases d <;> simp_all
  simp only [loadVar, Sem.run_bind, hagg, Result.andThen_ok, Bool.false_eq_true, if_false, run_load, hc]
theorem results_two {P : Program} {w : World} {fn : Func} {p q : Tmp} {t1 t2 : TypeId} {a1 a2 : Addr} {v1 v2 : Value} (h : fn.results = #[.cell p t1, .cell q t2]) (tmps : Array Value) (hp : tmps.getD p undef = .pointer (some a1)) (hq : tmps.getD q undef = .pointer (some a2))
    (h1 : (loadVar t1 a1).run P w = .ok v1 w) (h2 : (loadVar t2 a2).run P w = .ok v2 w) : (results fn tmps).run P w = .ok (.tuple #[v1, v2]) w := by
  have hp' : tmps[p]?.getD undef = .pointer (some a1) := by simpa using hp
  have hq' : tmps[q]?.getD undef = .pointer (some a2) := by simpa using hq
  simp [results, h, hp', hq', asAddr, h1, h2]
def MustPost (w : World) (fs : List Fld) (e : Ending) (w' : World) : Prop :=
  ∃ A c, e = .returned (.tuple #[.slice A (encR fs).length c, .int .i64 (encE fs : Nat)]) ∧ Ext w w' ∧ Rd w' A (encR fs).length (u8s (encR fs))
set_option maxRecDepth 100000 in
set_option maxHeartbeats 1000000 in
theorem mustOf_any (A : Option Addr) (n c : Nat) (fs : List Fld) (w : World) (hr : FsRd w A n fs) (hw : FWf fs) (hn : n ≤ maxLen) :
    Calls Try.prog 12 #[.slice A n c] w (MustPost w fs) := by
  have hmf : ∀ (fn : Fn) (first cap : Array Value) (w : World), (Instr.makeFunc fn first cap).run Try.prog w = .ok (.func fn first cap) w := fun _ _ _ _ => rfl
  by_cases h0 : encE fs = 0
  · have H0 := Lib.hid h0
    have H := Lib.hid (fun w' (hx : Ext w w') => must_ok A n c fs w' (hr.ext hx) hw hn h0)
    have hE : Ext w ((w.alloc (.cells #[.slice none 0 0] 23)).alloc (.cells #[.int .i64 0] 24)) := (by repeat (first | with_reducible exact Below.refl _ _ | with_reducible assumption | with_reducible refine ExtD ?_ | with_reducible refine ExtDN ?_ | with_reducible refine ExtA ?_ | (with_reducible refine ExtR ?_ ?_; (first | omega | (dsimp only; omega) | (simp; done) | (simp; omega))) | (with_reducible refine ExtS ?_ ?_; (first | omega | (dsimp only; omega) | (simp; done) | (simp; omega))) | with_reducible refine Ext.tr ?_ (by with_reducible assumption)))
    have HE := Lib.hid hE
    clear h0
    go_enter_defers Try.func12, Try.ntmps12
    have hB := Lib.hid (fun w1 (hx1 : Ext ((w.alloc (.cells #[.slice none 0 0] 23)).alloc (.cells #[.int .i64 0] 24)) w1) => (show Blk w1 w.heap.size 23 #[.slice none 0 0] ∧ Blk w1 (w.heap.size + 1) 24 #[.int .i64 0] from ⟨hx1.blk (BlkA (BlkN rfl)), hx1.blk (BlkN (by simp))⟩))
    go_wp2_with (go_at_call 39; go_must (with_reducible refine (H.out _ HE.out).mono ?_); rintro e w1 ⟨A1, c1, rfl, hx1, hown1⟩; obtain ⟨b2, b3⟩ := hB.out w1 hx1; have k2 : w1.cell? ⟨w.heap.size, 0, none⟩ = some (.slice none 0 0) := b2.cell 0; have k3 : w1.cell? ⟨w.heap.size + 1, 0, none⟩ = some (.int .i64 0) := b3.cell 0; have f2 := b2.frozen 0; have f3 := b3.frozen 0)
    refine leaves_cons (f := 38) (args := #[.pointer (some ⟨w.heap.size, 0, none⟩), .pointer (some ⟨w.heap.size + 1, 0, none⟩)]) (by simp) (by simp [go_sem]) ?_
    refine (mcatch_idle ⟨w.heap.size, 0, none⟩ ⟨w.heap.size + 1, 0, none⟩ _).mono ?_
    rintro e u' w'' ⟨rfl, rfl, rfl⟩
    have e2 : Blk ((w1.setCell ⟨w.heap.size, 0, none⟩ (.slice A1 (encR fs).length c1)).setCell ⟨w.heap.size + 1, 0, none⟩ (.int .i64 0)) w.heap.size 23 #[.slice A1 (encR fs).length c1] := BlkF (by dsimp only; omega) (BlkS b2)
    have e3 : Blk ((w1.setCell ⟨w.heap.size, 0, none⟩ (.slice A1 (encR fs).length c1)).setCell ⟨w.heap.size + 1, 0, none⟩ (.int .i64 0)) (w.heap.size + 1) 24 #[.int .i64 0] := BlkS (BlkF (by dsimp only; omega) b3)
    refine ⟨_, results_two rfl _ rfl rfl (load_cell Try.underlying23 rfl (e2.cell 0)) (load_cell Try.underlying24 rfl (e3.cell 0)), ?_⟩
    unfold MustPost
    rw [H0.out]
    exact ⟨A1, c1, rfl, (by repeat (first | with_reducible exact Below.refl _ _ | with_reducible assumption | with_reducible refine ExtD ?_ | with_reducible refine ExtDN ?_ | with_reducible refine ExtA ?_ | (with_reducible refine ExtR ?_ ?_; (first | omega | (dsimp only; omega) | (simp; done) | (simp; omega))) | (with_reducible refine ExtS ?_ ?_; (first | omega | (dsimp only; omega) | (simp; done) | (simp; omega))) | with_reducible refine Ext.tr ?_ (by with_reducible assumption))), rd_own (own_setCell (by simp) (own_setCell (by simp; omega) hown1))⟩
  · obtain ⟨E, hE⟩ : ∃ E, E = encE fs := ⟨_, rfl⟩
    have H := Lib.hid (fun w' (hx : Ext w w') => must_bad A n c fs w' (hr.ext hx) hw hn h0)
    have hR : encR fs = [] := by unfold encR; rw [if_neg h0]
    have HR := Lib.hid hR
    have HZ := Lib.hid hE
    have hE : Ext w ((w.alloc (.cells #[.slice none 0 0] 23)).alloc (.cells #[.int .i64 0] 24)) := (by repeat (first | with_reducible exact Below.refl _ _ | with_reducible assumption | with_reducible refine ExtD ?_ | with_reducible refine ExtDN ?_ | with_reducible refine ExtA ?_ | (with_reducible refine ExtR ?_ ?_; (first | omega | (dsimp only; omega) | (simp; done) | (simp; omega))) | (with_reducible refine ExtS ?_ ?_; (first | omega | (dsimp only; omega) | (simp; done) | (simp; omega))) | with_reducible refine Ext.tr ?_ (by with_reducible assumption)))
    have HE := Lib.hid hE
    clear h0 hR
    go_enter_defers Try.func12, Try.ntmps12
    have hB := Lib.hid (fun w1 (hx1 : Ext ((w.alloc (.cells #[.slice none 0 0] 23)).alloc (.cells #[.int .i64 0] 24)) w1) => (show Blk w1 w.heap.size 23 #[.slice none 0 0] ∧ Blk w1 (w.heap.size + 1) 24 #[.int .i64 0] from ⟨hx1.blk (BlkA (BlkN rfl)), hx1.blk (BlkN (by simp))⟩))
    go_wp2_with (go_at_call 39; go_must (with_reducible refine (H.out _ HE.out).mono ?_); rintro e w1 ⟨he, hx1⟩; unfold ErrPanic at he; subst he; obtain ⟨b2, b3⟩ := hB.out w1 hx1; have k2 : w1.cell? ⟨w.heap.size, 0, none⟩ = some (.slice none 0 0) := b2.cell 0; have k3 : w1.cell? ⟨w.heap.size + 1, 0, none⟩ = some (.int .i64 0) := b3.cell 0; have f2 := b2.frozen 0; have f3 := b3.frozen 0)
    refine leaves_cons (f := 38) (args := #[.pointer (some ⟨w.heap.size, 0, none⟩), .pointer (some ⟨w.heap.size + 1, 0, none⟩)]) (by simp) (by simp [go_sem]) ?_
    refine (mcatch_panic ⟨w.heap.size, 0, none⟩ ⟨w.heap.size + 1, 0, none⟩ _ _ _ [] _ k2 k3 f2 f3 (by simp)).mono ?_
    rintro e u' w'' ⟨rfl, rfl, rfl⟩
    simp only [settle, List.dropWhile_nil]
    have e2 : Blk ((w1.setCell ⟨w.heap.size, 0, none⟩ (.slice none 0 0)).setCell ⟨w.heap.size + 1, 0, none⟩ (.int .i64 (encE fs : Nat))) w.heap.size 23 #[.slice none 0 0] := BlkF (by dsimp only; omega) (BlkS b2)
    have e3 : Blk ((w1.setCell ⟨w.heap.size, 0, none⟩ (.slice none 0 0)).setCell ⟨w.heap.size + 1, 0, none⟩ (.int .i64 (encE fs : Nat))) (w.heap.size + 1) 24 #[.int .i64 (encE fs : Nat)] := BlkS (BlkF (by dsimp only; omega) b3)
    refine ⟨_, results_two rfl _ rfl rfl (load_cell Try.underlying23 rfl (e2.cell 0)) (load_cell Try.underlying24 rfl (e3.cell 0)), ?_⟩
    unfold MustPost
    rw [HR.out]
    exact ⟨none, 0, rfl, (by repeat (first | with_reducible exact Below.refl _ _ | with_reducible assumption | with_reducible refine ExtD ?_ | with_reducible refine ExtDN ?_ | with_reducible refine ExtA ?_ | (with_reducible refine ExtR ?_ ?_; (first | omega | (dsimp only; omega) | (simp; done) | (simp; omega))) | (with_reducible refine ExtS ?_ ?_; (first | omega | (dsimp only; omega) | (simp; done) | (simp; omega))) | with_reducible refine Ext.tr ?_ (by with_reducible assumption))), Rd.nil_ _ _⟩
end Go.Proofs.Ytcekdfhbbfednaa
