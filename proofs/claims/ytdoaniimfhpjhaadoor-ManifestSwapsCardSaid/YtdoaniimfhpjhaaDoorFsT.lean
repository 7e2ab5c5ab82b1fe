/-
  A disk in memory; Restart.
-/
import Derived.Test.YtdoaniimfhpjhaaDoorFsP
import Derived.StillTailTactics
namespace Go.Proofs.YtdoaniimfhpjhaaDoor
open Go.RowKit
set_option linter.unusedVariables false
set_option linter.unusedSimpArgs false
open Go.Maps
open Go.Sort
def ints (l : List Int) : List Value := l.map (Value.int .i64)
def sumF (l : List Fil) : Nat := (l.map (·.data.length)).sum
theorem sumF_app (a b : List Fil) : sumF (a ++ b) = sumF a + sumF b := by unfold sumF; rw [List.map_append, List.sum_append]
theorem sumF_one (f : Fil) : sumF [f] = f.data.length := by simp [sumF]
theorem sumF_cons (f : Fil) (l : List Fil) : sumF (f :: l) = f.data.length + sumF l := by simp [sumF]
theorem sumF_perm {a b : List Fil} (h : a.Perm b) : sumF a = sumF b := (h.map _).sum_nat
def SafeF (l : List Fil) : Prop := ∀ f ∈ l, f.safe ≤ f.data.length
def restK (keep : List Int) (i : Nat) (f : Fil) : Nat := if i < keep.length then min (keep.getD i 0).toNat (f.data.length - f.safe) else 0
def restF (keep : List Int) (i : Nat) (f : Fil) : Fil := { f with data := f.data.take (f.safe + restK keep i f), safe := f.safe + restK keep i f }
def restL (keep : List Int) (l : List Fil) : List Fil := l.mapIdx (restF keep)
def atF (d : Dk) (keep : List Int) (k : Nat) : List Fil := restL keep ((sortF d.files).take k) ++ (sortF d.files).drop k
def atD (d : Dk) (keep : List Int) (k : Nat) : Dk := { d with files := atF d keep k, used := (sumF (atF d keep k) : Nat) }
def restartD (d : Dk) (keep : List Int) : Dk := { d with files := restL keep (sortF d.files), used := (sumF (restL keep (sortF d.files)) : Nat), fuse := 0, down := false }
theorem atF_zero (d : Dk) (keep : List Int) : atF d keep 0 = sortF d.files := by simp [atF, restL]
theorem atF_succ (d : Dk) (keep : List Int) (k : Nat) (f : Fil) (h : (sortF d.files)[k]? = some f) : ∃ a b, a.length = k ∧ atF d keep k = a ++ f :: b ∧ atF d keep (k + 1) = a ++ restF keep k f :: b := by
  have hlt : k < (sortF d.files).length := (List.getElem?_eq_some_iff.1 h).1
  have hf : (sortF d.files)[k] = f := (List.getElem?_eq_some_iff.1 h).2
  refine ⟨restL keep ((sortF d.files).take k), (sortF d.files).drop (k + 1), by simp [restL]; omega, ?_, ?_⟩
  · unfold atF
    rw [List.drop_eq_getElem_cons hlt, hf]
  · unfold atF restL
    rw [List.take_add_one, h, Option.toList_some, List.mapIdx_append]
    simp [List.length_take, Nat.min_eq_left (Nat.le_of_lt hlt)]
theorem atF_end (d : Dk) (keep : List Int) (k : Nat) (h : d.files.length ≤ k) : atF d keep k = restL keep (sortF d.files) := by
  have : (sortF d.files).length ≤ k := by rw [sortF_len]; exact h
  unfold atF
  rw [List.take_of_length_le this, List.drop_of_length_le this, List.append_nil]
/-- A disk's files in another order. -/
theorem FsX.perm {W w : World} {g b : Nat} {d : Dk} {D : DataW Value} {hs hs' : List HF} (h : FsX W w g d b D hs) (hp : hs'.Perm hs) : FsX W w g { d with files := hs'.map (·.1) } b D hs' := by
  have hf : (foot g b hs').Perm (foot g b hs) := ((hp.flatMap_right footH).cons b).cons g
  obtain ⟨m1, m2, m3, m4, m5⟩ := h.map
  exact { ext := h.ext, blk := h.blk, own := h.own, map := ⟨m1, by rw [m2, List.length_map, List.length_map, hp.length_eq], ((hp.map _).map _).nodup_iff.2 m3, fun nm => by
      rw [m4, Bool.eq_iff_iff, List.any_eq_true, List.any_eq_true]
      exact ⟨fun ⟨x, hx, hn⟩ => ⟨x, (hp.map _).mem_iff.2 hx, hn⟩, fun ⟨x, hx, hn⟩ => ⟨x, (hp.map _).mem_iff.1 hx, hn⟩⟩, fun nm p hm z => m5 nm p ((hp.map _).mem_iff.1 hm) z⟩, fil := fun f hm => h.fil f (hp.mem_iff.1 hm), dis := hf.nodup_iff.2 h.dis, base := fun r hr => h.base r (hf.mem_iff.1 hr), lt := fun r hr => h.lt r (hf.mem_iff.1 hr), hsd := rfl, cnt := by rw [hp.length_eq]; exact h.cnt }
theorem perm_lift {α β : Type} (f : α → β) {l : List α} {m : List β} (h : m.Perm (l.map f)) : ∃ l' : List α, l'.Perm l ∧ l'.map f = m := by
  generalize hx : l.map f = x at h
  induction h generalizing l with
  | nil => exact ⟨[], by cases l <;> simp_all, rfl⟩
  | cons b h ih =>
    cases l with
    | nil => simp at hx
    | cons a l =>
      simp at hx
      obtain ⟨rfl, h2⟩ := hx
      obtain ⟨l', h3, h4⟩ := ih h2
      exact ⟨a :: l', h3.cons a, by simp [h4]⟩
  | swap b c h =>
    cases l with
    | nil => simp at hx
    | cons a l =>
      cases l with
      | nil => simp at hx
      | cons a2 l =>
        simp at hx
        obtain ⟨rfl, rfl, rfl⟩ := hx
        exact ⟨a2 :: a :: l, List.Perm.swap _ _ _, rfl⟩
  | trans h1 h2 ih1 ih2 =>
    obtain ⟨l1, h3, h4⟩ := ih2 hx
    obtain ⟨l2, h5, h6⟩ := ih1 h4
    exact ⟨l2, h5.trans h3, h6⟩
theorem FsX.sorted {W w : World} {g b : Nat} {d : Dk} {D : DataW Value} {hs : List HF} (h : FsX W w g d b D hs) : ∃ hs' : List HF, hs'.Perm hs ∧ FsX W w g { d with files := sortF d.files } b D hs' := by
  have hp : (sortF d.files).Perm (hs.map (·.1)) := by rw [h.hsd]; exact sortF_perm _
  obtain ⟨hs', h1, h2⟩ := perm_lift (fun h : HF => h.1) hp
  have := h.perm h1
  rw [h2] at this
  exact ⟨hs', h1, this⟩
theorem foot_perm2 {g b : Nat} {hs hs' : List HF} (hp : hs'.Perm hs) : ∀ r, r ∈ foot g b hs' ↔ r ∈ foot g b hs := fun r => (((hp.flatMap_right footH).cons b).cons g).mem_iff
theorem fs_rest {W w3 w' : World} {g b p c0 fs k : Nat} {d1 d' : Dk} {D : DataW Value} {l1 l2 : List HF} {nm : ByteArray} {fd : List UInt8} {A : Option Addr} (h : FsX W w3 g d1 b D (l1 ++ (⟨nm, fd, fs⟩, p, A, c0) :: l2)) (hk : k ≤ fd.length) (ht : Turn [g, p] w3 w')
    (hb : Blk w' g 48 (fscells b d')) (hp : Blk w' p 61 #[.slice A k k, .int .i64 (k : Nat)]) (hd : d'.files = (l1.map (·.1)) ++ ⟨nm, fd.take k, k⟩ :: (l2.map (·.1))) :
    FsTo W w3 w' g b (l1 ++ (⟨nm, fd, fs⟩, p, A, c0) :: l2) d' := by
  have hfm : ((⟨nm, fd, fs⟩, p, A, c0) : HF) ∈ l1 ++ (⟨nm, fd, fs⟩, p, A, c0) :: l2 := by simp
  have hpf : p ∈ footH ((⟨nm, fd, fs⟩, p, A, c0) : HF) := by simp [footH]
  obtain ⟨hF, hO⟩ := h.fil _ hfm
  have hlen : (fd.take k).length = k := by rw [List.length_take]; omega
  refine fs_data (f' := (⟨nm, fd.take k, k⟩, p, A, k)) h rfl rfl (ht.mono (fun r hr => .inl (by simp at hr; rcases hr with rfl | rfl; simp; simp [footH]))) hb ⟨by simpa [filcells, hlen] using hp, ?_⟩ (fun r hr => .inl hr) (by rw [hd]; simp)
  dsimp only
  rw [hlen]
  have h2 := hO.cut hk
  have hne := OwnC.ne hF h2 (by decide)
  have hge := OwnC.ne h.blk h2 (by decide)
  exact ht.ownC h2 fun r hr hc => by
    simp at hc
    rcases hc with rfl | rfl
    · exact hge hr.symm
    · exact hne hr.symm
def RestR (W w w1 : World) (g b : Nat) (hs : List HF) (d : Dk) (keep : List Int) (c13 : Value) (wr : World) : Prop :=
  ∃ (k : Nat), c13 = .int .i64 k ∧ k ≤ d.files.length ∧ ∃ (D' : DataW Value) (hs' : List HF), FsX W wr g (atD d keep k) b D' hs' ∧ Turn (foot g b hs) w1 wr ∧ ∀ r ∈ foot g b hs', r ∈ foot g b hs ∨ w1.heap.size ≤ r
theorem FsTo.then {W w w1 w2 : World} {g b : Nat} {hs hs1 : List HF} {d2 : Dk} (h : FsTo W w1 w2 g b hs1 d2) (ht : Turn (foot g b hs) w w1) (hf : ∀ r ∈ foot g b hs1, r ∈ foot g b hs ∨ w.heap.size ≤ r) : FsTo W w w2 g b hs d2 := by
  obtain ⟨D, hs', h1, h2, h3⟩ := h
  exact ⟨D, hs', h1, ht.trans h2 hf, fun r hr => (h3 r hr).elim (fun h4 => hf r h4) (fun h4 => .inr (Nat.le_trans ht.size h4))⟩
theorem restK_le {keep : List Int} {i : Nat} {f : Fil} (h : f.safe ≤ f.data.length) : f.safe + restK keep i f ≤ f.data.length := by
  unfold restK
  split
  · have := Nat.min_le_right (keep.getD i 0).toNat (f.data.length - f.safe); omega
  · omega
theorem sumF_idx (F : Nat → Fil → Fil) (hF : ∀ i f, (F i f).data.length ≤ f.data.length) (l : List Fil) : sumF (l.mapIdx F) ≤ sumF l := by
  induction l generalizing F with
  | nil => simp [sumF]
  | cons f l ih =>
    rw [List.mapIdx_cons, sumF_cons, sumF_cons]
    have h1 := hF 0 f
    have h2 := ih (fun i => F (i + 1)) (fun i f => hF (i + 1) f)
    omega
theorem restF_len (keep : List Int) (i : Nat) (f : Fil) : (restF keep i f).data.length ≤ f.data.length := by
  unfold restF
  dsimp only
  rw [List.length_take]
  omega
theorem sumF_at (d : Dk) (keep : List Int) (k : Nat) : sumF (atF d keep k) ≤ sumF d.files := by
  unfold atF restL
  have h1 := sumF_idx (restF keep) (restF_len keep) ((sortF d.files).take k)
  have h2 : sumF ((sortF d.files).take k) + sumF ((sortF d.files).drop k) = sumF d.files := by
    rw [← sumF_app, List.take_append_drop, sumF_perm (sortF_perm _)]
  rw [sumF_app]
  omega
set_option maxRecDepth 100000 in
set_option maxHeartbeats 8000000 in
theorem restart_any (W w : World) (g b : Nat) (d : Dk) (D : DataW Value) (hs : List HF) (AK : Option Addr) (nk ck : Nat) (keep : List Int) (h : FsX W w g d b D hs) (hk : DkOk d) (hsf : SafeF d.files) (hnk : nk ≤ 140737488355328)
    (hr : ∀ w', Turn (foot g b hs) w w' → Rd w' AK nk (ints keep)) (hki : ∀ x ∈ keep, IsI64 x) :
    Calls Tryd.prog 11 #[ptrV g, .slice AK nk ck] w fun e w' => e = .returned (.tuple #[]) ∧ FsTo W w w' g b hs (restartD d keep) := by
  have KN := Lib.hid (names_any W w g b d D hs h)
  have hcnt : d.files.length ≤ 700 := by rw [← h.hsd, List.length_map]; exact h.cnt
  unfold GaveN at KN
  unfold ptrV at KN ⊢
  have HX := Lib.hid h
  obtain ⟨L, hL⟩ : ∃ L, L = d.files.length := ⟨_, rfl⟩
  rw [← hL] at KN hcnt
  have HL := Lib.hid hL
  clear h hL
  go_enter Tryd.func11, Tryd.ntmps11
  go_wp2_with (go_at_call 27; (with_reducible refine (KN.out).mono ?_); rintro e w1 ⟨An, cn, rfl, hx1, hown1⟩)
  have Hr := Lib.hid fun (w' : World) (ht : Turn (foot g b hs) w1 w') => ((ht.own hown1 (fun r hr hc => by
    have h1 := (hown1.lt r hr).1
    have h2 := HX.out.lt r hc
    omega)) : w'.ownsRow w.heap.size 9 1 (.slice An L cn) L (nmV (sortF d.files)))
  have HK := Lib.hid fun (w' : World) (ht : Turn (foot g b hs) w1 w') => hr w' ((hx1.turn _).tr ht)
  clear hown1 hr
  go_loopw [13] (fun c13 wr => RestR W w w1 g b hs d keep c13 wr) (fun c13 _ => L - (intOf c13).toNat)
  case atStart =>
    obtain ⟨hs', hp, hX⟩ := (HX.out.ext_ hx1).sorted
    refine ⟨0, rfl, by omega, D, hs', ?_, Turn.refl _ _, fun r hr => .inl ((foot_perm2 hp r).1 hr)⟩
    have e1 : atD d keep 0 = { d with files := sortF d.files } := by
      unfold atD
      rw [atF_zero, sumF_perm (sortF_perm _)]
      have := hk.1
      unfold sumF
      rw [← this]
    rw [e1]
    exact hX
  case round =>
    obtain ⟨k, rfl, hkL, D', hs', hX, ht, hf⟩ := hrel
    rw [← HL.out] at hkL
    by_cases hlt : k < L
    · obtain ⟨f, hfk⟩ : ∃ f, (sortF d.files)[k]? = some f := ⟨_, List.getElem?_eq_getElem (by rw [sortF_len, ← HL.out]; exact hlt)⟩
      obtain ⟨la, lb, hla, hE, hE2⟩ := atF_succ d keep k f hfk
      have hsf' : f.safe ≤ f.data.length := hsf f ((sortF_perm _).mem_iff.1 (List.mem_of_getElem? hfk))
      have hsd : hs'.map (·.1) = la ++ f :: lb := hX.hsd.trans hE
      obtain ⟨l1, r1, rfl, rfl, hm2⟩ := List.map_eq_append_iff.1 hsd
      obtain ⟨⟨⟨fn, fd, fs⟩, p, A, c0⟩, l2, rfl, rfl, rfl⟩ := List.map_eq_cons_iff.1 hm2
      clear hsd hm2
      dsimp only at hfk hsf'
      obtain ⟨nb, no, rfl, e0⟩ := nm_at (Rd.of_own (Hr.out wr ht)) hfk
      dsimp only at e0
      have hl := look_hit (nm := fn) (p := p) hX.own hX.map (List.mem_map.2 ⟨((⟨fn, fd, fs⟩, p, A, c0) : HF), by simp, rfl⟩) (name_len hX (f := ((⟨fn, fd, fs⟩, p, A, c0) : HF)) (by simp))
      unfold ptrV at hl
      have hB := hX.blk
      have k0 : wr.cell? ⟨g, 0, none⟩ = some (.map (some b)) := hB.cell 0
      have hF := (hX.fil (⟨fn, fd, fs⟩, p, A, c0) (by simp)).1
      unfold filcells at hF
      dsimp only at hF
      obtain ⟨q, hq⟩ : ∃ q, q = restK keep k ⟨fn, fd, fs⟩ := ⟨_, rfl⟩
      have hqle := restK_le (keep := keep) (i := k) (f := ⟨fn, fd, fs⟩) hsf'
      rw [← hq] at hqle
      dsimp only at hqle
      have hu : (fd.length : Int) ≤ (sumF (atF d keep k) : Nat) := by rw [hE, sumF_app, sumF_cons]; dsimp only; omega
      have hlu : (sumF (atF d keep k) : Int) ≤ 67108864 := by have := sumF_at d keep k; have h3 := hk.1; have h4 := hk.2.1; have h5 := hk.2.2; unfold sumF at this ⊢; omega
      have RK := HK.out wr ht
      have hkl : keep.length = nk := by have := RK.1; simpa [ints] using this
      have Hq := Lib.hid hq
      have HE := Lib.hid hE
      have HE2 := Lib.hid hE2
      have Hfk := Lib.hid hfk
      obtain ⟨n0, hn0⟩ : ∃ n0, n0 = fd.length := ⟨_, rfl⟩
      have Hn0 := Lib.hid hn0
      rw [← hn0] at hF hsf' hqle hu
      have q0 : wr.cell? ⟨p, 0, none⟩ = some (.slice A n0 c0) := hF.cell 0
      have q1 : wr.cell? ⟨p, 1, none⟩ = some (.int .i64 (fs : Nat)) := hF.cell 1
      clear hq hE hE2 hfk hn0 hla
      go_upto_if 27 with fail
      go_cut [7] (fun s7 w' => s7 = .int .i64 (q : Nat) ∧ Ext wr w')
      case first =>
        have fin : ∀ (v : Int) (w' : World), v = (q : Nat) → Ext wr w' → (Value.int .i64 v = .int .i64 (q : Nat) ∧ Ext wr w') := fun v w' hv hx => ⟨by rw [hv], hx⟩
        by_cases hkn : k < nk
        · obtain ⟨kb, ko, rfl, kc⟩ := RK.2 (by omega)
          have ek := kc k (.int .i64 (keep.getD k 0)) (by simp [ints, List.getD, List.getElem?_eq_getElem (show k < keep.length by omega)])
          obtain ⟨x, hx⟩ : ∃ x, x = keep.getD k 0 := ⟨_, rfl⟩
          have hxi : IsI64 x := hki x (by rw [hx, List.getD_eq_getElem?_getD, List.getElem?_eq_getElem (show k < keep.length by omega)]; exact List.getElem_mem _)
          have hqv : q = min x.toNat (n0 - fs) := by rw [Hq.out, hx]; unfold restK; rw [if_pos (by omega)]; dsimp only; rw [← Hn0.out]
          rw [← hx] at ek
          have HX2 := Lib.hid hx
          clear hx kc
          unfold IsI64 at hxi
          have hwr : IntKind.i64.wrap ((n0 : Int) - (fs : Int)) = (n0 : Int) - (fs : Int) := by rw [IntKind.wrap_i64]; omega
          have hqv2 := Lib.hid hqv
          clear hqv
          go_wp2_with fail
          go_quiet (fail)
          go_wp2_with fail
          go_meet
          exact fin _ _ (by have := hqv2.out; omega) (by repeat (first | with_reducible exact Below.refl _ _ | with_reducible assumption | with_reducible refine ExtD ?_ | with_reducible refine ExtDN ?_ | with_reducible refine ExtA ?_ | (with_reducible refine ExtR ?_ ?_; (first | omega | (dsimp only; omega) | (simp; done) | (simp; omega))) | (with_reducible refine ExtS ?_ ?_; (first | omega | (dsimp only; omega) | (simp; done) | (simp; omega))) | with_reducible refine Ext.tr ?_ (by with_reducible assumption)))
        · have hq0 : q = 0 := by rw [Hq.out]; unfold restK; rw [if_neg (by omega)]
          have d1 : decide (k < nk) = false := by simpa using hkn
          go_wp2_with fail
          go_meet
          exact fin _ _ (by rw [hq0]; rfl) (by repeat (first | with_reducible exact Below.refl _ _ | with_reducible assumption | with_reducible refine ExtD ?_ | with_reducible refine ExtDN ?_ | with_reducible refine ExtA ?_ | (with_reducible refine ExtR ?_ ?_; (first | omega | (dsimp only; omega) | (simp; done) | (simp; omega))) | (with_reducible refine ExtS ?_ ?_; (first | omega | (dsimp only; omega) | (simp; done) | (simp; omega))) | with_reducible refine Ext.tr ?_ (by with_reducible assumption)))
      case rest =>
        obtain ⟨rfl, hxc⟩ := hcut
        clear e0 hl k0 hB hF q0 q1
        have hX2 := hX.ext_ hxc
        have ht2 := ht.tr (hxc.turn _)
        clear hX ht
        have hpg := (foot_gh hX2.dis (h := (⟨fn, fd, fs⟩, p, A, c0)) (by simp) (r := p) (by simp [footH])).1
        have hpg' := hpg.symm
        have FA := Lib.hid fun (w1 : World) (hx : Ext wc w1) => ((hX2.ext_ hx).fil (⟨fn, fd, fs⟩, p, A, c0) (by simp)).1
        unfold filcells at FA
        dsimp only at FA
        rw [← Hn0.out] at FA
        obtain ⟨U, hU⟩ : ∃ U, U = sumF (atF d keep k) := ⟨_, rfl⟩
        have FB := Lib.hid fun (w1 : World) (hx : Ext wc w1) => (hX2.ext_ hx).blk
        have F2 := Lib.hid fun (w1 : World) (hx : Ext wc w1) => (show w1.cell? ⟨g, 2, none⟩ = some (.int .i64 (U : Nat)) from by have := (FB.out w1 hx).cell 2; rw [hU]; exact this)
        rw [← hU] at hu hlu
        have HU := Lib.hid hU
        have hwr1 : IntKind.i64.wrap ((n0 : Int) - (fs : Int)) = (n0 : Int) - (fs : Int) := by rw [IntKind.wrap_i64]; omega
        have hwr2 : IntKind.i64.wrap ((n0 : Int) - (fs : Int) - (q : Int)) = (n0 : Int) - (fs : Int) - (q : Int) := by rw [IntKind.wrap_i64]; omega
        have hwr3 : IntKind.i64.wrap ((U : Int) - ((n0 : Int) - (fs : Int) - (q : Int))) = (U : Int) - ((n0 : Int) - (fs : Int) - (q : Int)) := by rw [IntKind.wrap_i64]; omega
        clear hU
        have q0 : wc.cell? ⟨p, 0, none⟩ = some (.slice A n0 c0) := (FA.out wc (Ext.rfl' _)).cell 0
        have q1 : wc.cell? ⟨p, 1, none⟩ = some (.int .i64 (fs : Nat)) := (FA.out wc (Ext.rfl' _)).cell 1
        have q2 := F2.out wc (Ext.rfl' _)
        go_wp2_with fail
        go_still_tail 19, (by kernel_rfl)
        change wpList _ _ _ _ _ wc.drew
        have hX3 := hX2.ext_ (ExtD (Ext.rfl' wc))
        have ht3 := ht2.tr ((ExtD (Ext.rfl' wc)).turn (foot g b hs))
        have hF := FA.out _ (ExtD (Ext.rfl' wc))
        have hB := FB.out _ (ExtD (Ext.rfl' wc))
        have q2' := F2.out _ (ExtD (Ext.rfl' wc))
        clear q0 q1 q2 hX2 ht2 FA FB F2 hxc
        generalize wc.drew = w3 at *
        have q0 : w3.cell? ⟨p, 0, none⟩ = some (.slice A n0 c0) := hF.cell 0
        have q1 : w3.cell? ⟨p, 1, none⟩ = some (.int .i64 (fs : Nat)) := hF.cell 1
        have f0 := hF.frozen 0
        have f1 := hF.frozen 1
        have f2 := hB.frozen 2
        go_wp2_with fail
        generalize hw4 : (w3.setCell ⟨g, 2, none⟩ (.int .i64 ((U : Int) - ((n0 : Int) - (fs : Int) - (q : Int))))).setCell ⟨p, 1, none⟩ (.int .i64 ((fs : Int) + (q : Int))) = w4
        have Bp : Blk w4 p 61 #[.slice A n0 c0, .int .i64 ((fs + q : Nat) : Int)] := by
          rw [← hw4]
          exact Blk_eq (BlkS (BlkF hpg hF)) (by simp)
        have Bg : Blk w4 g 48 (fscells b { atD d keep k with used := (U : Int) - ((n0 : Int) - (fs : Int) - (q : Int)) }) := by
          rw [← hw4]
          exact Blk_eq (BlkF hpg' (BlkS hB)) (by simp [fscells])
        have T4 : Turn [g, p] w3 w4 := by rw [← hw4]; exact (Turn.cell (by simp)).tr (Turn.cell (by simp))
        clear hw4 q0 q1 q2' f0 f1 f2 hF hB
        have q0 : w4.cell? ⟨p, 0, none⟩ = some (.slice A n0 c0) := Bp.cell 0
        have q1 : w4.cell? ⟨p, 1, none⟩ = some (.int .i64 ((fs + q : Nat) : Int)) := Bp.cell 1
        obtain ⟨r, hr⟩ : ∃ r, r = fs + q := ⟨_, rfl⟩
        rw [← hr] at q1 Bp hqle
        have hcap := (file_cap hX3).1
        rw [← Hn0.out] at hcap
        have hcut := slice_cut A n0 c0 r (by omega)
        have Hr3 := Lib.hid hr
        clear hr
        go_still_tail 16, (by kernel_rfl)
        change wpList _ _ _ _ _ w4.drew
        have Bp5 := BlkD Bp
        have Bg5 := BlkD Bg
        have T5 := T4.tr ((ExtD (Ext.rfl' w4)).turn [g, p])
        clear Bp Bg T4 q0 q1
        generalize w4.drew = w5 at *
        have q0 : w5.cell? ⟨p, 0, none⟩ = some (.slice A n0 c0) := Bp5.cell 0
        have q1 : w5.cell? ⟨p, 1, none⟩ = some (.int .i64 (r : Nat)) := Bp5.cell 1
        have f0 := Bp5.frozen 0
        go_wp2_with fail
        go_roundw
        case rel =>
          have hU := HU.out
          have hr := Hr3.out
          subst hr
          have hsafe : restF keep k ⟨fn, fd, fs⟩ = ⟨fn, fd.take (fs + q), fs + q⟩ := by unfold restF; rw [← Hq.out]
          have hZ : FsTo W w3 (w5.setCell ⟨p, 0, none⟩ (.slice A (fs + q) (fs + q))) g b _ (atD d keep (k + 1)) :=
            fs_rest hX3 (k := fs + q) (by rw [← Hn0.out]; exact hqle) (T5.tr (Turn.cell (by simp))) (Blk_eq (BlkF hpg' Bg5) ?_) (Blk_eq (BlkS Bp5) (by simp)) ?_
          · obtain ⟨D2, hs2, x1, x2, x3⟩ := hZ.then ht3 hf
            exact ⟨k + 1, by go_num, by rw [← HL.out]; omega, D2, hs2, x1, x2, x3⟩
          · have e1 : sumF (atF d keep (k + 1)) + (n0 - fs - q) = U := by
              rw [hU, HE.out, HE2.out, sumF_app, sumF_app, sumF_cons, sumF_cons, hsafe]
              dsimp only
              rw [List.length_take, ← Hn0.out]
              omega
            unfold fscells atD
            dsimp only
            congr 6
            omega
          · show atF d keep (k + 1) = _
            rw [HE2.out, hsafe]
        case measure => simp [intOf]; omega
    · obtain rfl : k = L := by omega
      have hB := hX.blk
      have f5 := hB.frozen 5
      have f6 := hB.frozen 6
      have k5 : wr.cell? ⟨g, 5, none⟩ = some (.int .i64 d.fuse) := hB.cell 5
      have k6 : wr.cell? ⟨g, 6, none⟩ = some (.bool d.down) := hB.cell 6
      have HB := Lib.hid hB
      clear hB
      go_wp2_with fail
      first | go_end0 | (refine bodyPost_ret (results_none rfl _ _ _) rfl ?_) | (refine bodyPost_end (results_none rfl _ _ _) rfl ?_)
      refine ⟨rfl, ?_⟩
      have hE := atF_end d keep k (by rw [← HL.out]; exact Nat.le_refl _)
      have hR : restartD d keep = { atD d keep k with fuse := 0, down := false } := by unfold restartD atD; rw [hE]
      rw [hR]
      refine FsTo.then (hX.cells_to (Blk_eq (BlkS (BlkS HB.out)) (by simp [fscells])) (grown_setF (grown_setF (grown_rfl wr g))) rfl) ((hx1.turn _).tr ht) (fun r hr => (hf r hr).imp id fun h => Nat.le_trans hx1.size h)
end Go.Proofs.YtdoaniimfhpjhaaDoor
