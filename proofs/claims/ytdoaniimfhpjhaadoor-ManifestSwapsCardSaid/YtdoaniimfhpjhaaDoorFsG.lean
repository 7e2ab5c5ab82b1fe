/-
  A disk in memory; Append, Used, Free.
-/
/-
  A disk in memory; Sync, Size, Fuse, Down, Steps, ReadBytes.
-/
/-
  A disk in memory; Size, Read, Fuse, Down, Steps, ReadBytes.
-/
/-
  A disk in memory; Read.
-/
import Derived.Test.YtdoaniimfhpjhaaDoorFsD
namespace Go.Proofs.YtdoaniimfhpjhaaDoor
open Go.RowKit
set_option linter.unusedVariables false
set_option linter.unusedSimpArgs false
open Go.Maps
theorem FileAt.nodup {w : World} {base : Nat} {h : HF} (hf : FileAt w base h) : (footH h).Nodup := by
  unfold footH
  cases hA : h.2.2.1 with
  | none => simp
  | some a =>
    simp only [List.nodup_cons, List.mem_singleton, List.not_mem_nil, not_false_eq_true, List.nodup_nil, and_self, and_true]
    intro hc
    exact OwnC.ne hf.1 hf.2 (by decide) (by rw [hA, hc]; rfl)
theorem FileAt.lt {w : World} {base r : Nat} {h : HF} (hf : FileAt w base h) (hr : r ∈ footH h) : r < w.heap.size := by
  unfold footH at hr
  rcases List.mem_cons.1 hr with hr | hr
  · subst hr; exact hf.1.lt
  · cases hA : h.2.2.1 with
    | none => rw [hA] at hr; cases hr
    | some a =>
      rw [hA] at hr
      simp only [List.mem_singleton] at hr
      subst hr
      exact (hf.2.lt a.block (by rw [hA]; rfl)).2
theorem foot_perm (g b : Nat) (l1 l2 : List HF) (f : HF) : (foot g b (l1 ++ f :: l2)).Perm (footH f ++ (g :: b :: (l1 ++ l2).flatMap footH)) := by
  unfold foot
  rw [List.flatMap_append, List.flatMap_cons, List.flatMap_append]
  have h1 : (l1.flatMap footH ++ (footH f ++ l2.flatMap footH)).Perm (footH f ++ (l1.flatMap footH ++ l2.flatMap footH)) := by
    rw [← List.append_assoc, ← List.append_assoc]
    exact List.Perm.append_right _ List.perm_append_comm
  exact ((h1.cons b).cons g).trans ((List.perm_middle.symm.cons g).trans List.perm_middle.symm)
/-- One file's bytes, and the disk's own cells. -/
theorem fs_data {W w w' : World} {g b : Nat} {d d' : Dk} {D : DataW Value} {l1 l2 : List HF} {f f' : HF} (h : FsX W w g d b D (l1 ++ f :: l2)) (hn : f'.1.name = f.1.name) (hp : f'.2.1 = f.2.1) (ht : Turn (g :: footH f) w w')
    (hb : Blk w' g 48 (fscells b d')) (hf : FileAt w' W.heap.size f') (hfo : ∀ r ∈ footH f', r ∈ footH f ∨ w.heap.size ≤ r) (hd : d'.files = (l1 ++ f' :: l2).map (·.1)) : FsTo W w w' g b (l1 ++ f :: l2) d' := by
  have hfm : f ∈ l1 ++ f :: l2 := by simp
  have hP := foot_perm g b l1 l2 f
  have hP' := foot_perm g b l1 l2 f'
  have hN := (hP.nodup_iff).1 h.dis
  rw [List.nodup_append] at hN
  obtain ⟨n1, n2, n3⟩ := hN
  have hsub : ∀ r ∈ foot g b (l1 ++ f' :: l2), r ∈ foot g b (l1 ++ f :: l2) ∨ w.heap.size ≤ r ∧ r < w'.heap.size := fun r hr => by
    rcases List.mem_append.1 (hP'.mem_iff.1 hr) with hr | hr
    · rcases hfo r hr with h2 | h2
      · exact .inl (hP.mem_iff.2 (List.mem_append_left _ h2))
      · exact .inr ⟨h2, hf.lt hr⟩
    · exact .inl (hP.mem_iff.2 (List.mem_append_right _ hr))
  have hF : ∀ r ∈ g :: footH f, r ∈ foot g b (l1 ++ f :: l2) := fun r hr => by
    rcases List.mem_cons.1 hr with hr | hr
    · subst hr; exact foot_g
    · exact foot_h hfm hr
  refine ⟨D, l1 ++ f' :: l2, { ext := ht.ext h.ext (fun r hr => h.base r (hF r hr)), blk := hb, own := ?_, map := ?_, fil := fun k hk => ?_, dis := ?_, base := fun r hr => ?_, lt := fun r hr => ?_, hsd := hd.symm, cnt := by have := h.cnt; simpa using this }, ht.mono (fun r hr => .inl (hF r hr)), fun r hr => (hsub r hr).imp id (·.1)⟩
  · obtain ⟨n, hn', ho⟩ := h.own
    refine ⟨n, hn', ht.map ho ?_⟩
    intro hc
    rcases List.mem_cons.1 hc with hc | hc
    · exact foot_gb h.dis hc.symm
    · exact (foot_gh h.dis hfm hc).2 rfl
  · have := h.map
    simp only [List.map_append, List.map_cons, hn, hp] at this ⊢
    exact this
  · have hk' : k ∈ l1 ++ l2 ∨ k = f' := by
      rcases List.mem_append.1 hk with hk | hk
      · exact .inl (List.mem_append_left _ hk)
      · rcases List.mem_cons.1 hk with hk | hk
        · exact .inr hk
        · exact .inl (List.mem_append_right _ hk)
    rcases hk' with hk' | rfl
    · have hm : k ∈ l1 ++ f :: l2 := by
        rcases List.mem_append.1 hk' with hk' | hk'
        · exact List.mem_append_left _ hk'
        · exact List.mem_append_right _ (List.mem_cons_of_mem _ hk')
      refine (h.fil k hm).turn ht fun r hr hc => ?_
      rcases List.mem_cons.1 hc with hc | hc
      · exact (foot_gh h.dis hm hr).1 hc
      · exact n3 r hc r (List.mem_cons_of_mem _ (List.mem_cons_of_mem _ (List.mem_flatMap.2 ⟨k, hk', hr⟩))) rfl
    · exact hf
  · rw [hP'.nodup_iff, List.nodup_append]
    refine ⟨hf.nodup, n2, fun a ha c hc hac => ?_⟩
    subst hac
    rcases hfo a ha with h2 | h2
    · exact n3 a h2 a hc rfl
    · have := h.lt a (hP.mem_iff.2 (List.mem_append_right _ hc))
      omega
  · rcases hsub r hr with h2 | h2
    · exact h.base r h2
    · have := h.ext.size; omega
  · rcases hsub r hr with h2 | h2
    · have := h.lt r h2; have := ht.size; omega
    · exact h2.2
/-- What a disk keeps: the bytes are counted, and there is room for them. -/
def DkOk (d : Dk) : Prop := d.used = ((d.files.map (·.data.length)).sum : Nat) ∧ d.used ≤ d.room ∧ d.room ≤ 67108864
def dataD (d : Dk) (nm : ByteArray) (f : Fil → Fil) : List Fil := d.files.map fun x => if x.name = nm then f x else x
def appendD (d : Dk) (nm : ByteArray) (l : List UInt8) : Dk × Nat :=
  if openE d nm ≠ 0 then (d, openE d nm) else if d.room - d.used < (l.length : Nat) then (d, 54) else
  ({ (stepD d).1 with files := dataD d nm (fun f => { f with data := f.data ++ l }), used := d.used + (l.length : Nat) }, if (stepD d).2 = true then 0 else 3)
theorem names_apart {D : DataW Value} {l1 l2 : List HF} {f : HF} {nm : ByteArray} (h : MapL D ((l1 ++ f :: l2).map fun h => (h.1.name, h.2.1))) (hf : f.1.name = nm) : (∀ x ∈ l1, x.1.name ≠ nm) ∧ ∀ x ∈ l2, x.1.name ≠ nm := by
  have h3 := h.2.2.1
  simp only [List.map_append, List.map_cons, List.map_map] at h3
  rw [List.nodup_append] at h3
  obtain ⟨_, h4, h5⟩ := h3
  rw [List.nodup_cons] at h4
  subst hf
  exact ⟨fun x hx hc => h5 x.1.name (List.mem_map.2 ⟨x, hx, rfl⟩) f.1.name List.mem_cons_self hc, fun x hx hc => h4.1 (List.mem_map.2 ⟨x, hx, hc⟩)⟩
theorem dataD_eq {W w : World} {g b : Nat} {d : Dk} {D : DataW Value} {l1 l2 : List HF} {f : HF} {nm : ByteArray} (h : FsX W w g d b D (l1 ++ f :: l2)) (hf : f.1.name = nm) (k : Fil → Fil) (p : Nat × Option Addr × Nat) : dataD d nm k = (l1 ++ (k f.1, p) :: l2).map (·.1) := by
  obtain ⟨h1, h2⟩ := names_apart h.map hf
  unfold dataD
  rw [← h.hsd, List.map_map, List.map_append, List.map_append, List.map_cons, List.map_cons]
  congr 1
  · exact List.map_congr_left fun x hx => by simp [h1 x hx]
  · congr 1
    · simp [hf]
    · exact List.map_congr_left fun x hx => by simp [h2 x hx]
theorem le_sum_mem {l : List Nat} {x : Nat} (h : x ∈ l) : x ≤ l.sum := by
  induction l with
  | nil => cases h
  | cons a l ih =>
    rw [List.sum_cons]
    rcases List.mem_cons.1 h with h | h
    · omega
    · have := ih h; omega
theorem len_le_used {d : Dk} (h : DkOk d) {f : Fil} (hf : f ∈ d.files) : (f.data.length : Int) ≤ d.used := by
  have : f.data.length ≤ (d.files.map (·.data.length)).sum := le_sum_mem (List.mem_map.2 ⟨f, hf, rfl⟩)
  rw [h.1]; omega
theorem openE_hit {W w : World} {g b : Nat} {d : Dk} {D : DataW Value} {hs : List HF} {nm : ByteArray} (h : FsX W w g d b D hs) (h0 : openE d nm = 0) : ∃ f ∈ hs, f.1.name = nm := by
  unfold openE at h0
  split at h0
  · omega
  · split at h0
    · omega
    · split at h0
      · rename_i hin
        rw [← h.hsd, List.any_eq_true] at hin
        obtain ⟨f, hf, hn⟩ := hin
        obtain ⟨x, hx, rfl⟩ := List.mem_map.1 hf
        exact ⟨x, hx, by simpa using hn⟩
      · omega
theorem name_one {D : DataW Value} {l1 l2 : List HF} {f f2 : HF} (h : MapL D ((l1 ++ f :: l2).map fun h => (h.1.name, h.2.1))) (h2 : f2 ∈ l1 ++ f :: l2) (hn : f2.1.name = f.1.name) : f2 = f := by
  obtain ⟨a1, a2⟩ := names_apart h rfl
  rcases List.mem_append.1 h2 with h2 | h2
  · exact absurd hn (a1 _ h2)
  · rcases List.mem_cons.1 h2 with h2 | h2
    · exact h2
    · exact absurd hn (a2 _ h2)
theorem row_ne {w : World} {base p n s : Nat} {t e : TypeId} {cs : Array Value} {v : Value} {xs : List Value} (h1 : Blk w p t cs) (h2 : w.ownsRow base e s v n xs) (ht : t ≠ e) : some p ≠ v.ownBlock := fun hc => by
  rcases h2.2 with ⟨rfl, _⟩ | ⟨g2, cap, cur, rfl, _, hg2, _⟩
  · cases hc
  · simp only [Value.ownBlock, Option.some.injEq] at hc
    subst hc
    unfold Blk at h1
    rw [h1] at hg2
    simp at hg2
    exact ht hg2.2
theorem stepD_used (d : Dk) : (stepD d).1.used = d.used := by
  unfold stepD
  split
  · split <;> rfl
  · rfl
theorem fs_appended {W w w1 w2 w3 : World} {g b p n0 c0 m c' : Nat} {d : Dk} {D : DataW Value} {l1 l2 : List HF} {fn : ByteArray} {fd l : List UInt8} {fs : Nat} {A A' : Option Addr} {u : Int} (h : FsX W w g d b D (l1 ++ (⟨fn, fd, fs⟩, p, A, c0) :: l2)) (hx : Ext w w1) (hg2 : w1.grownBy w2 (some g))
    (hb2 : Blk w2 g 48 (fscells b (stepD d).1)) (hF : Blk w2 p 61 #[.slice A n0 c0, .int .i64 (fs : Nat)] ∧ OwnC w2 W.heap.size (.slice A n0 c0) n0 fd) (hg3 : w2.grownBy w3 (Value.slice A n0 c0).ownBlock)
    (hb3 : (Value.slice A' (n0 + m) c').ownBlock = (Value.slice A n0 c0).ownBlock ∨ (Value.slice A' (n0 + m) c').ownBlock = some w2.heap.size) (hown : OwnC w3 W.heap.size (.slice A' (n0 + m) c') (n0 + m) (fd ++ l)) (hn0 : n0 = fd.length) (hlm : l.length = m) (hu : u = d.used + (m : Nat)) :
    FsTo W w ((w3.setCell ⟨p, 0, none⟩ (.slice A' (n0 + m) c')).setCell ⟨g, 2, none⟩ (.int .i64 u)) g b (l1 ++ (⟨fn, fd, fs⟩, p, A, c0) :: l2) { (stepD d).1 with files := dataD d fn (fun f => { f with data := f.data ++ l }), used := d.used + (m : Nat) } := by
  subst hu
  have hfm : ((⟨fn, fd, fs⟩, p, A, c0) : HF) ∈ l1 ++ (⟨fn, fd, fs⟩, p, A, c0) :: l2 := by simp
  have hlen : (fd ++ l).length = n0 + m := by rw [List.length_append]; omega
  have hpf : p ∈ footH ((⟨fn, fd, fs⟩, p, A, c0) : HF) := by simp [footH]
  have hpg := (foot_gh h.dis hfm hpf).1
  have hAf : ∀ r, (Value.slice A n0 c0).ownBlock = some r → r ∈ footH ((⟨fn, fd, fs⟩, p, A, c0) : HF) := fun r hr => by
    cases A with
    | none => cases hr
    | some a => simp only [Value.ownBlock, Option.some.injEq] at hr; subst hr; simp [footH]
  have hz1 := hx.size
  have hz2 := hg2.size
  have hz3 := hg3.size
  have ht3 : Turn (g :: footH ((⟨fn, fd, fs⟩, p, A, c0) : HF)) w w3 := ((hx.turn _).tr (grown_turn hg2 (fun r hr => by injection hr with hr; subst hr; exact .inl (by simp)))).tr (grown_turn hg3 (fun r hr => .inl (List.mem_cons_of_mem _ (hAf r hr))))
  have c3 := BlkG hF.1 hg3 (OwnC.ne hF.1 hF.2 (by decide))
  have g3 := BlkG hb2 hg3 (OwnC.ne hb2 hF.2 (by decide))
  have a1 : ∀ r, (Value.slice A' (n0 + m) c').ownBlock = some r → r ≠ p := fun r hr hc => OwnC.ne c3 hown (by decide) (by rw [hr, hc])
  have a2 : ∀ r, (Value.slice A' (n0 + m) c').ownBlock = some r → r ≠ g := fun r hr hc => OwnC.ne g3 hown (by decide) (by rw [hr, hc])
  refine fs_data (f' := (⟨fn, fd ++ l, fs⟩, p, A', c')) h rfl rfl ((ht3.tr (Turn.cell (by simp [footH]))).tr (Turn.cell (by simp))) ?_ ⟨?_, ?_⟩ ?_ ?_
  · exact Blk_eq (BlkS (BlkF hpg.symm g3)) (by simp [fscells])
  · exact Blk_eq (BlkF hpg (BlkS c3)) (by simp [filcells, hlen])
  · dsimp only
    rw [hlen]
    exact Turn.ownC (F := [g]) (Turn.cell (by simp)) (Turn.ownC (F := [p]) (Turn.cell (by simp)) hown (fun r hr => by simpa using a1 r hr)) (fun r hr => by simpa using a2 r hr)
  · intro r hr
    rcases List.mem_cons.1 hr with hr | hr
    · exact .inl (by subst hr; exact hpf)
    · cases A' with
      | none => cases hr
      | some a =>
        simp only [List.mem_singleton] at hr
        rcases hb3 with hb3 | hb3
        · exact .inl (hAf r (by rw [← hb3, hr]; rfl))
        · simp only [Value.ownBlock, Option.some.injEq] at hb3
          exact .inr (by rw [hr, hb3]; omega)
  · exact dataD_eq h rfl _ _
set_option maxRecDepth 100000 in
set_option maxHeartbeats 4000000 in
theorem append_any (W w : World) (g b : Nat) (d : Dk) (D : DataW Value) (hs : List HF) (nm : ByteArray) (B : Option Addr) (m c : Nat) (l : List UInt8) (h : FsX W w g d b D hs) (hd : DkNum d) (hk : DkOk d) (hlm : l.length = m) (hm : m ≤ 140737488355328)
    (hr : ∀ w', Turn (foot g b hs) w w' → Rd w' B m (u8s l)) :
    Calls Tryd.prog 20 #[ptrV g, .string nm, .slice B m c] w fun e w' => e = .returned (.int .i64 ((appendD d nm l).2 : Nat)) ∧ FsTo W w w' g b hs (appendD d nm l).1 := by
  have HX := Lib.hid h
  have KO := Lib.hid (open_any W w g b d D hs nm h)
  unfold ptrV at KO ⊢
  clear h
  by_cases h0 : openE d nm = 0
  · rw [h0] at KO
    have k1 := Lib.hid fun (w1 : World) (hx : Ext w w1) => (HX.out.ext_ hx).blk.cell 1
    have k2 := Lib.hid fun (w1 : World) (hx : Ext w w1) => (HX.out.ext_ hx).blk.cell 2
    have hu0 : 0 ≤ d.used := by rw [hk.1]; omega
    have hrm := hk.2.2
    have hur := hk.2.1
    by_cases hfull : d.room - d.used < (m : Nat)
    · have hc : appendD d nm l = (d, 54) := by unfold appendD; rw [if_neg (by omega), if_pos (by rw [hlm]; exact hfull)]
      rw [hc]
      have t1 : decide (d.room - d.used < (m : Nat)) = true := by simpa using hfull
      clear hc hfull hr
      go_enter Tryd.func20, Tryd.ntmps20
      go_wp2_with (go_at_call 36; (with_reducible refine (KO.out).mono ?_); rintro e w1 ⟨v, rfl, hx1, -⟩; have k1 : w1.cell? ⟨g, 1, none⟩ = some (.int .i64 d.room) := k1.out w1 hx1; have k2 : w1.cell? ⟨g, 2, none⟩ = some (.int .i64 d.used) := k2.out w1 hx1)
      go_quiet (fail)
      go_wp2_with fail
      go_ret
      exact ⟨rfl, HX.out.ext_to (by repeat (first | with_reducible exact Below.refl _ _ | with_reducible assumption | with_reducible refine ExtD ?_ | with_reducible refine ExtDN ?_ | with_reducible refine ExtA ?_ | (with_reducible refine ExtR ?_ ?_; (first | omega | (dsimp only; omega) | (simp; done) | (simp; omega))) | (with_reducible refine ExtS ?_ ?_; (first | omega | (dsimp only; omega) | (simp; done) | (simp; omega))) | with_reducible refine Ext.tr ?_ (by with_reducible assumption)))⟩
    · obtain ⟨f, hfm, hfn⟩ := openE_hit HX.out h0
      obtain ⟨l1, l2, rfl⟩ := List.append_of_mem hfm
      obtain ⟨⟨fn, fd, fs⟩, p, A, c0⟩ := f
      have hfn : fn = nm := hfn
      subst hfn
      obtain ⟨up, hup⟩ : ∃ up, up = (stepD d).2 := ⟨_, rfl⟩
      have hc : appendD d fn l = ({ (stepD d).1 with files := dataD d fn (fun f => { f with data := f.data ++ l }), used := d.used + (m : Nat) }, if up = true then 0 else 3) := by unfold appendD; rw [if_neg (by omega), if_neg (by rw [hlm]; exact hfull), hlm, hup]
      rw [hc]
      have hfl : (fd.length : Int) ≤ d.used := len_le_used hk (f := ⟨fn, fd, fs⟩) (by rw [← HX.out.hsd]; exact List.mem_map.2 ⟨_, hfm, rfl⟩)
      have t1 : decide (d.room - d.used < (m : Nat)) = false := by simpa using hfull
      have KS := Lib.hid fun (w1 : World) (hx : Ext w w1) => step_any g b d w1 (HX.out.ext_ hx).blk hd
      unfold ptrV at KS
      rw [← hup] at KS
      have KU := Lib.hid fun (f2 : HF) (hf2 : f2 ∈ l1 ++ (⟨fn, fd, fs⟩, p, A, c0) :: l2) (hn : f2.1.name = fn) => name_one HX.out.map hf2 hn
      obtain ⟨n0, hn0⟩ : ∃ n0, n0 = fd.length := ⟨_, rfl⟩
      have Hn0 := Lib.hid hn0
      have FA := Lib.hid fun (w1 w2 : World) (hx : Ext w w1) (hg : w1.grownBy w2 (some g)) => (((HX.out.ext_ hx).fil _ hfm).turn (grown_turn hg (F := [g]) (fun r hr => by injection hr with hr; subst hr; exact .inl (by simp))) (fun r hr => by simpa using (foot_gh HX.out.dis hfm hr).1))
      have RD := Lib.hid fun (w1 w2 : World) (hx : Ext w w1) (hg : w1.grownBy w2 (some g)) => hr w2 ((hx.turn _).tr (grown_turn hg (fun r hr => by injection hr with hr; subst hr; exact .inl foot_g)))
      unfold FileAt filcells at FA
      dsimp only at FA
      rw [← hn0] at FA hfl
      have hXs := HX.out.ext.size
      have hml : (m : Int) ≤ d.room - d.used := by omega
      clear hc hfull hr hk hup hn0
      cases up
      all_goals
        go_enter Tryd.func20, Tryd.ntmps20
        go_wp2_with (go_at_call 36; (with_reducible refine (KO.out).mono ?_); rintro e w1 ⟨v, rfl, hx1, hv⟩; obtain ⟨f2, hf2, hn2, hv⟩ := hv rfl; have he := KU.out f2 hf2 hn2; rw [he] at hv; clear he hn2 hf2 f2; dsimp only at hv; subst hv; have k1 : w1.cell? ⟨g, 1, none⟩ = some (.int .i64 d.room) := k1.out w1 hx1; have k2 : w1.cell? ⟨g, 2, none⟩ = some (.int .i64 d.used) := k2.out w1 hx1)
        go_quiet (fail)
        go_wp2_with (first
          | (go_at_call 37; go_loud ((with_reducible refine (KS.out _ (by repeat (first | with_reducible exact Below.refl _ _ | with_reducible assumption | with_reducible refine ExtD ?_ | with_reducible refine ExtDN ?_ | with_reducible refine ExtA ?_ | (with_reducible refine ExtR ?_ ?_; (first | omega | (dsimp only; omega) | (simp; done) | (simp; omega))) | (with_reducible refine ExtS ?_ ?_; (first | omega | (dsimp only; omega) | (simp; done) | (simp; omega))) | with_reducible refine Ext.tr ?_ (by with_reducible assumption)))).mono ?_); rintro e w2 ⟨rfl, hb2, hg2⟩; have hx1d : Ext w (w1.drewN nq) := (by repeat (first | with_reducible exact Below.refl _ _ | with_reducible assumption | with_reducible refine ExtD ?_ | with_reducible refine ExtDN ?_ | with_reducible refine ExtA ?_ | (with_reducible refine ExtR ?_ ?_; (first | omega | (dsimp only; omega) | (simp; done) | (simp; omega))) | (with_reducible refine ExtS ?_ ?_; (first | omega | (dsimp only; omega) | (simp; done) | (simp; omega))) | with_reducible refine Ext.tr ?_ (by with_reducible assumption))); have hF := FA.out _ _ hx1d hg2; have q0 : w2.cell? ⟨p, 0, none⟩ = some (.slice A n0 c0) := hF.1.cell 0; have hR := RD.out _ _ hx1d hg2; have hW2 : W.heap.size ≤ w2.heap.size := (by have := hx1d.size; have := hg2.size; omega)))
          | (at_builtin; go_must (refine wpC_append rfl (.tmp 37) (.tmp 38) rfl W.heap.size (.slice A n0 c0) n0 _ rfl hF.2 B m c _ rfl hR (by omega) hW2 ?_); intro v' w3 hown' hg3 hb3; obtain ⟨A', c', rfl⟩ := hown'.slice_; have c3 := BlkG hF.1 hg3 (OwnC.ne hF.1 hF.2 (by decide)); have g3 := BlkG hb2 hg3 (OwnC.ne hb2 hF.2 (by decide)); have z0 : w3.cell? ⟨p, 0, none⟩ = some (.slice A n0 c0) := c3.cell 0; have zf := c3.frozen 0; have z2 : w3.cell? ⟨g, 2, none⟩ = some (.int .i64 d.used) := (g3.cell 2).trans (by rw [← stepD_used d]; rfl); have zg := g3.frozen 2))
        go_ret
        refine ⟨by first | rfl | simp, ?_⟩
        exact fs_appended HX.out hx1d hg2 hb2 hF hg3 hb3 hown' Hn0.out hlm (by go_num)
  · have hc : appendD d nm l = (d, openE d nm) := by unfold appendD; rw [if_pos h0]
    rw [hc]
    have t1 : ((openE d nm : Nat) : Int) ≠ 0 := by omega
    have e2 : (((openE d nm : Nat) : Int) != 0) = true := by simpa using t1
    clear hc
    generalize openE d nm = E at *
    go_enter Tryd.func20, Tryd.ntmps20
    go_wp2_with (go_at_call 36; (with_reducible refine (KO.out).mono ?_); rintro e w1 ⟨v, rfl, hx1, -⟩)
    go_ret
    exact ⟨rfl, HX.out.ext_to (by repeat (first | with_reducible exact Below.refl _ _ | with_reducible assumption | with_reducible refine ExtD ?_ | with_reducible refine ExtDN ?_ | with_reducible refine ExtA ?_ | (with_reducible refine ExtR ?_ ?_; (first | omega | (dsimp only; omega) | (simp; done) | (simp; omega))) | (with_reducible refine ExtS ?_ ?_; (first | omega | (dsimp only; omega) | (simp; done) | (simp; omega))) | with_reducible refine Ext.tr ?_ (by with_reducible assumption)))⟩
end Go.Proofs.YtdoaniimfhpjhaaDoor

namespace Go.Proofs.YtdoaniimfhpjhaaDoor
open Go.RowKit
set_option linter.unusedVariables false
set_option linter.unusedSimpArgs false
open Go.Maps
def syncD (d : Dk) (nm : ByteArray) : Dk × Nat :=
  if openE d nm ≠ 0 then (d, openE d nm) else if (stepD d).2 = true then ({ (stepD d).1 with files := dataD d nm (fun f => { f with safe := f.data.length }) }, 0) else ((stepD d).1, 3)
/-- What a call on a file finds: the file, and the walk's facts. -/
theorem fs_found {W w : World} {g b : Nat} {d : Dk} {D : DataW Value} {hs : List HF} {nm : ByteArray} (h : FsX W w g d b D hs) (h0 : openE d nm = 0) :
    ∃ l1 l2 fd fs p A c0, hs = l1 ++ (⟨nm, fd, fs⟩, p, A, c0) :: l2 := by
  obtain ⟨f, hfm, hfn⟩ := openE_hit h h0
  obtain ⟨l1, l2, rfl⟩ := List.append_of_mem hfm
  obtain ⟨⟨fn, fd, fs⟩, p, A, c0⟩ := f
  have hfn : fn = nm := hfn
  subst hfn
  exact ⟨l1, l2, fd, fs, p, A, c0, rfl⟩
theorem open_hit (W w : World) (g b : Nat) (d : Dk) (D : DataW Value) (l1 l2 : List HF) (nm : ByteArray) (fd : List UInt8) (fs p : Nat) (A : Option Addr) (c0 : Nat) (h : FsX W w g d b D (l1 ++ (⟨nm, fd, fs⟩, p, A, c0) :: l2)) (h0 : openE d nm = 0) :
    Calls Tryd.prog 36 #[.pointer (some ⟨g, 0, none⟩), .string nm] w fun e w' => e = .returned (.tuple #[.pointer (some ⟨p, 0, none⟩), .int .i64 0]) ∧ Ext w w' := by
  refine (open_any W w g b d D _ nm h).mono ?_
  rintro e w' ⟨v, rfl, hx, hv⟩
  obtain ⟨f2, hf2, hn2, hv⟩ := hv h0
  have he := name_one h.map hf2 hn2
  rw [he] at hv
  rw [hv, h0]
  exact ⟨rfl, hx⟩
theorem open_bad (W w : World) (g b : Nat) (d : Dk) (D : DataW Value) (hs : List HF) (nm : ByteArray) (E : Nat) (h : FsX W w g d b D hs) (h0 : openE d nm = E) :
    Calls Tryd.prog 36 #[.pointer (some ⟨g, 0, none⟩), .string nm] w fun e w' => ∃ v, e = .returned (.tuple #[v, .int .i64 (E : Nat)]) ∧ Ext w w' := by
  refine (open_any W w g b d D _ nm h).mono ?_
  rintro e w' ⟨v, rfl, hx, hv⟩
  rw [h0]
  exact ⟨v, rfl, hx⟩
theorem step_at (W w : World) (g b : Nat) (d : Dk) (D : DataW Value) (hs : List HF) (up : Bool) (hd : DkNum d) (hup : (stepD d).2 = up) (h : FsX W w g d b D hs) :
    Calls Tryd.prog 37 #[.pointer (some ⟨g, 0, none⟩)] w fun e w' => e = .returned (.bool up) ∧ FsX W w' g (stepD d).1 b D hs ∧ Turn [g] w w' := by
  refine (step_any g b d w h.blk hd).mono ?_
  rintro e w' ⟨rfl, hb, hg⟩
  rw [hup]
  exact ⟨rfl, h.cells hb hg (stepD_files d), grown_turn hg (fun r hr => by injection hr with hr; subst hr; exact .inl (by simp))⟩
theorem turn_g {g b : Nat} {hs : List HF} {w w' : World} (h : Turn [g] w w') : Turn (foot g b hs) w w' := h.mono fun r hr => by simp at hr; subst hr; exact .inl foot_g
/-- A disk that has only been stepped, as what a call leaves. -/
theorem FsX.to {W w w' : World} {g b : Nat} {d' : Dk} {D : DataW Value} {hs : List HF} (h : FsX W w' g d' b D hs) (ht : Turn (foot g b hs) w w') : FsTo W w w' g b hs d' := ⟨D, hs, h, ht, fun _ hr => .inl hr⟩
theorem FsTo.before {W w w' w2 : World} {g b : Nat} {d : Dk} {hs : List HF} (h : FsTo W w' w2 g b hs d) (ht : Turn (foot g b hs) w w') : FsTo W w w2 g b hs d := by
  obtain ⟨D, hs', h1, h2, h3⟩ := h
  exact ⟨D, hs', h1, ht.tr h2, fun r hr => (h3 r hr).imp id fun hk => Nat.le_trans ht.size hk⟩
theorem dataD_step (d : Dk) (nm : ByteArray) (k : Fil → Fil) : dataD (stepD d).1 nm k = dataD d nm k := by unfold dataD; rw [stepD_files]
set_option maxRecDepth 100000 in
set_option maxHeartbeats 4000000 in
theorem sync_any (W w : World) (g b : Nat) (d : Dk) (D : DataW Value) (hs : List HF) (nm : ByteArray) (h : FsX W w g d b D hs) (hd : DkNum d) :
    Calls Tryd.prog 22 #[ptrV g, .string nm] w fun e w' => e = .returned (.int .i64 ((syncD d nm).2 : Nat)) ∧ FsTo W w w' g b hs (syncD d nm).1 := by
  have HX := Lib.hid h
  unfold ptrV
  by_cases h0 : openE d nm = 0
  · obtain ⟨l1, l2, fd, fs, p, A, c0, rfl⟩ := fs_found h h0
    have KO := Lib.hid (open_hit W w g b d D l1 l2 nm fd fs p A c0 h h0)
    obtain ⟨up, hup⟩ : ∃ up, (stepD d).2 = up := ⟨_, rfl⟩
    have KS := Lib.hid fun (w1 : World) (hx : Ext w w1) => step_at W w1 g b d D _ up hd hup (HX.out.ext_ hx)
    have FA := Lib.hid fun (w1 : World) (d' : Dk) (hX : FsX W w1 g d' b D (l1 ++ (⟨nm, fd, fs⟩, p, A, c0) :: l2)) => (hX.fil (⟨nm, fd, fs⟩, p, A, c0) (by simp)).1
    unfold filcells at FA
    dsimp only at FA
    cases up
    · have hc : syncD d nm = ((stepD d).1, 3) := by unfold syncD; rw [if_neg (by omega), if_neg (by simp [hup])]
      rw [hc]
      clear hc h
      go_enter Tryd.func22, Tryd.ntmps22
      go_wp2_with (first
        | (go_at_call 36; (with_reducible refine (KO.out).mono ?_); rintro e w1 ⟨rfl, hx1⟩)
        | (go_at_call 37; (with_reducible refine (KS.out _ hx1).mono ?_); rintro e w2 ⟨rfl, hX2, ht2⟩))
      go_ret
      exact ⟨rfl, hX2.to ((hx1.turn _).tr (turn_g ht2))⟩
    · have hc : syncD d nm = ({ (stepD d).1 with files := dataD d nm (fun f => { f with safe := f.data.length }) }, 0) := by unfold syncD; rw [if_neg (by omega), if_pos hup]
      rw [hc]
      obtain ⟨n0, hn0⟩ : ∃ n0, n0 = fd.length := ⟨_, rfl⟩
      rw [← hn0] at FA
      have Hn := Lib.hid hn0
      clear hc h hn0
      go_enter Tryd.func22, Tryd.ntmps22
      go_wp2_with (first
        | (go_at_call 36; (with_reducible refine (KO.out).mono ?_); rintro e w1 ⟨rfl, hx1⟩)
        | (go_at_call 37; (with_reducible refine (KS.out _ hx1).mono ?_); rintro e w2 ⟨rfl, hX2, ht2⟩; have hF := FA.out _ _ hX2; have q0 : w2.cell? ⟨p, 0, none⟩ = some (.slice A n0 c0) := hF.cell 0; have q1 : w2.cell? ⟨p, 1, none⟩ = some (.int .i64 (fs : Nat)) := hF.cell 1; have qf := hF.frozen 1))
      go_ret
      refine ⟨rfl, FsTo.before ?_ ((hx1.turn _).tr (turn_g ht2))⟩
      refine fs_data (f' := (⟨nm, fd, fd.length⟩, p, A, c0)) hX2 rfl rfl (Turn.cell (by simp [footH])) (Blk_eq (BlkF ((foot_gh hX2.dis (h := (⟨nm, fd, fs⟩, p, A, c0)) (by simp) (r := p) (by simp [footH])).1.symm) hX2.blk) (by simp [fscells])) ⟨Blk_eq (BlkS hF) (by simp [filcells, Hn.out]), ?_⟩ (fun r hr => .inl hr) ?_
      · have h2 := (hX2.fil (⟨nm, fd, fs⟩, p, A, c0) (by simp)).2
        exact Turn.ownC (F := [p]) (Turn.cell (by simp)) h2 (fun r hr hc => OwnC.ne hF h2 (by decide) (by simp at hc; subst hc; exact hr.symm))
      · rw [← dataD_step]
        exact dataD_eq hX2 rfl _ _
  · have KO := Lib.hid (open_bad W w g b d D hs nm _ h rfl)
    have hc : syncD d nm = (d, openE d nm) := by unfold syncD; rw [if_pos h0]
    rw [hc]
    have e2 : (((openE d nm : Nat) : Int) != 0) = true := by simp; omega
    clear hc h
    generalize openE d nm = E at *
    go_enter Tryd.func22, Tryd.ntmps22
    go_wp2_with (go_at_call 36; (with_reducible refine (KO.out).mono ?_); rintro e w1 ⟨v, rfl, hx1⟩)
    go_ret
    exact ⟨rfl, HX.out.ext_to (by repeat (first | with_reducible exact Below.refl _ _ | with_reducible assumption | with_reducible refine ExtD ?_ | with_reducible refine ExtDN ?_ | with_reducible refine ExtA ?_ | (with_reducible refine ExtR ?_ ?_; (first | omega | (dsimp only; omega) | (simp; done) | (simp; omega))) | (with_reducible refine ExtS ?_ ?_; (first | omega | (dsimp only; omega) | (simp; done) | (simp; omega))) | with_reducible refine Ext.tr ?_ (by with_reducible assumption)))⟩
end Go.Proofs.YtdoaniimfhpjhaaDoor

namespace Go.Proofs.YtdoaniimfhpjhaaDoor
open Go.RowKit
set_option linter.unusedVariables false
set_option linter.unusedSimpArgs false
open Go.Maps
def getF (d : Dk) (nm : ByteArray) : Option Fil := d.files.find? fun f => decide (f.name = nm)
theorem getF_eq {W w : World} {g b : Nat} {d : Dk} {D : DataW Value} {l1 l2 : List HF} {f : HF} {nm : ByteArray} (h : FsX W w g d b D (l1 ++ f :: l2)) (hf : f.1.name = nm) : getF d nm = some f.1 := by
  obtain ⟨h1, h2⟩ := names_apart h.map hf
  unfold getF
  rw [← h.hsd, List.map_append, List.find?_append]
  have : (l1.map (·.1)).find? (fun f => decide (f.name = nm)) = none := by
    rw [List.find?_eq_none]
    intro x hx
    obtain ⟨y, hy, rfl⟩ := List.mem_map.1 hx
    simpa using h1 y hy
  rw [this, List.map_cons, List.find?_cons_of_pos (by simpa using hf)]
  rfl
def sizeD (d : Dk) (nm : ByteArray) : Nat × Nat := if openE d nm ≠ 0 then (0, openE d nm) else (((getF d nm).map (·.data.length)).getD 0, 0)
set_option maxRecDepth 100000 in
set_option maxHeartbeats 4000000 in
theorem size_any (W w : World) (g b : Nat) (d : Dk) (D : DataW Value) (hs : List HF) (nm : ByteArray) (h : FsX W w g d b D hs) :
    Calls Tryd.prog 28 #[ptrV g, .string nm] w fun e w' => e = .returned (.tuple #[.int .i64 ((sizeD d nm).1 : Nat), .int .i64 ((sizeD d nm).2 : Nat)]) ∧ Ext w w' := by
  have HX := Lib.hid h
  unfold ptrV
  by_cases h0 : openE d nm = 0
  · obtain ⟨l1, l2, fd, fs, p, A, c0, rfl⟩ := fs_found h h0
    have KO := Lib.hid (open_hit W w g b d D l1 l2 nm fd fs p A c0 h h0)
    have FA := Lib.hid fun (w1 : World) (hx : Ext w w1) => ((HX.out.ext_ hx).fil (⟨nm, fd, fs⟩, p, A, c0) (by simp)).1
    unfold filcells at FA
    dsimp only at FA
    have hc : sizeD d nm = (fd.length, 0) := by unfold sizeD; rw [if_neg (by omega), getF_eq h (f := (⟨nm, fd, fs⟩, p, A, c0)) rfl]; rfl
    rw [hc]
    obtain ⟨n0, hn0⟩ : ∃ n0, n0 = fd.length := ⟨_, rfl⟩
    rw [← hn0] at FA ⊢
    clear hc h hn0
    go_enter Tryd.func28, Tryd.ntmps28
    go_wp2_with (go_at_call 36; (with_reducible refine (KO.out).mono ?_); rintro e w1 ⟨rfl, hx1⟩; have q0 : w1.cell? ⟨p, 0, none⟩ = some (.slice A n0 c0) := (FA.out _ hx1).cell 0)
    go_ret2
    exact ⟨rfl, (by repeat (first | with_reducible exact Below.refl _ _ | with_reducible assumption | with_reducible refine ExtD ?_ | with_reducible refine ExtDN ?_ | with_reducible refine ExtA ?_ | (with_reducible refine ExtR ?_ ?_; (first | omega | (dsimp only; omega) | (simp; done) | (simp; omega))) | (with_reducible refine ExtS ?_ ?_; (first | omega | (dsimp only; omega) | (simp; done) | (simp; omega))) | with_reducible refine Ext.tr ?_ (by with_reducible assumption)))⟩
  · have KO := Lib.hid (open_bad W w g b d D hs nm _ h rfl)
    have hc : sizeD d nm = (0, openE d nm) := by unfold sizeD; rw [if_pos h0]
    rw [hc]
    have e2 : (((openE d nm : Nat) : Int) != 0) = true := by simp; omega
    clear hc h
    generalize openE d nm = E at *
    go_enter Tryd.func28, Tryd.ntmps28
    go_wp2_with (go_at_call 36; (with_reducible refine (KO.out).mono ?_); rintro e w1 ⟨v, rfl, hx1⟩)
    go_ret2
    exact ⟨rfl, (by repeat (first | with_reducible exact Below.refl _ _ | with_reducible assumption | with_reducible refine ExtD ?_ | with_reducible refine ExtDN ?_ | with_reducible refine ExtA ?_ | (with_reducible refine ExtR ?_ ?_; (first | omega | (dsimp only; omega) | (simp; done) | (simp; omega))) | (with_reducible refine ExtS ?_ ?_; (first | omega | (dsimp only; omega) | (simp; done) | (simp; omega))) | with_reducible refine Ext.tr ?_ (by with_reducible assumption)))⟩
set_option maxRecDepth 100000 in
set_option maxHeartbeats 4000000 in
theorem fuse_any (W w : World) (g b : Nat) (d : Dk) (D : DataW Value) (hs : List HF) (n : Int) (h : FsX W w g d b D hs) :
    Calls Tryd.prog 10 #[ptrV g, .int .i64 n] w fun e w' => e = .returned (.tuple #[]) ∧ FsTo W w w' g b hs { d with fuse := max 0 n } := by
  have HX := Lib.hid h
  unfold ptrV
  have k5 : w.cell? ⟨g, 5, none⟩ = some (.int .i64 d.fuse) := h.blk.cell 5
  have f5 := h.blk.frozen 5
  clear h
  by_cases hn : 0 < n
  · have hm : max 0 n = n := by omega
    rw [hm]
    have d1 : decide (0 < n) = true := by simpa using hn
    clear hm
    go_enter Tryd.func10, Tryd.ntmps10
    go_wp2_with fail
    first | go_end0 | (refine bodyPost_ret (results_none rfl _ _ _) rfl ?_)
    exact ⟨rfl, HX.out.cells_to (Blk_eq (BlkS HX.out.blk) (by simp [fscells])) (grown_setF (grown_rfl w g)) rfl⟩
  · have hm : max 0 n = 0 := by omega
    rw [hm]
    have d1 : decide (0 < n) = false := by simpa using hn
    clear hm
    go_enter Tryd.func10, Tryd.ntmps10
    go_wp2_with fail
    first | go_end0 | (refine bodyPost_ret (results_none rfl _ _ _) rfl ?_)
    exact ⟨rfl, HX.out.cells_to (Blk_eq (BlkS HX.out.blk) (by simp [fscells])) (grown_setF (grown_rfl w g)) rfl⟩
end Go.Proofs.YtdoaniimfhpjhaaDoor

namespace Go.Proofs.YtdoaniimfhpjhaaDoor
open Go.RowKit
set_option linter.unusedVariables false
set_option linter.unusedSimpArgs false
open Go.Maps
def IsI64 (x : Int) : Prop := -9223372036854775808 ≤ x ∧ x ≤ 9223372036854775807
def readD (d : Dk) (nm : ByteArray) (i n : Int) : Dk × List UInt8 × Nat :=
  if openE d nm ≠ 0 then (d, [], openE d nm) else
  let l := ((getF d nm).map (·.data)).getD []
  if i < 0 ∨ n < 0 ∨ (l.length : Int) < i ∨ (l.length : Int) - i < n then (d, [], 1) else ({ d with read := wrap64 (d.read + n) }, (l.drop i.toNat).take n.toNat, 0)
/-- New bytes as a call hands them out, behind what it did to the disk. -/
def GaveB (W w : World) (g b : Nat) (hs : List HF) (d' : Dk) (l : List UInt8) (E : Nat) (e : Ending) (w' : World) : Prop :=
  ∃ A c, e = .returned (.tuple #[.slice A l.length c, .int .i64 (E : Nat)]) ∧ FsTo W w w' g b hs d' ∧ w'.ownsRow w.heap.size 5 1 (.slice A l.length c) l.length (u8s l)
theorem OwnC.set_ {w : World} {base g n : Nat} {t : TypeId} {cs : Array Value} {v : Value} {l : List UInt8} (h1 : Blk w g t cs) (h2 : OwnC w base v n l) (ht : t ≠ 5) (i : Nat) (u : Value) : OwnC (w.setCell ⟨g, i, none⟩ u) base v n l :=
  Turn.ownC (F := [g]) (Turn.cell (by simp)) h2 (fun r hr hc => by
    simp at hc
    subst hc
    exact OwnC.ne h1 h2 ht hr.symm)
set_option maxRecDepth 100000 in
set_option maxHeartbeats 4000000 in
theorem read_any (W w : World) (g b : Nat) (d : Dk) (D : DataW Value) (hs : List HF) (nm : ByteArray) (i n : Int) (h : FsX W w g d b D hs) (hk : DkOk d) (hi : IsI64 i) (hn : IsI64 n) :
    Calls Tryd.prog 29 #[ptrV g, .string nm, .int .i64 i, .int .i64 n] w (GaveB W w g b hs (readD d nm i n).1 (readD d nm i n).2.1 (readD d nm i n).2.2) := by
  have HX := Lib.hid h
  unfold ptrV IsI64 at *
  by_cases h0 : openE d nm = 0
  · obtain ⟨l1, l2, fd, fs, p, A, c0, rfl⟩ := fs_found h h0
    have KO := Lib.hid (open_hit W w g b d D l1 l2 nm fd fs p A c0 h h0)
    have FA := Lib.hid fun (w1 : World) (hx : Ext w w1) => (HX.out.ext_ hx).fil (⟨nm, fd, fs⟩, p, A, c0) (by simp)
    have K4 := Lib.hid fun (w1 : World) (hx : Ext w w1) => (HX.out.ext_ hx).blk
    unfold FileAt filcells at FA
    dsimp only at FA
    have hlim : (fd.length : Int) ≤ 67108864 := by
      have := len_le_used hk (f := ⟨nm, fd, fs⟩) (by rw [← h.hsd]; exact List.mem_map.2 ⟨((⟨nm, fd, fs⟩, p, A, c0) : HF), by simp, rfl⟩)
      dsimp only at this
      have := hk.2.1; have := hk.2.2; omega
    have hg : getF d nm = some ⟨nm, fd, fs⟩ := getF_eq h (f := (⟨nm, fd, fs⟩, p, A, c0)) rfl
    by_cases hbad : i < 0 ∨ n < 0 ∨ (fd.length : Int) < i ∨ (fd.length : Int) - i < n
    · have hc : readD d nm i n = (d, [], 1) := by
        unfold readD
        rw [if_neg (by omega), hg]
        exact if_pos hbad
      rw [hc]
      obtain ⟨n0, hn0⟩ : ∃ n0, n0 = fd.length := ⟨_, rfl⟩
      rw [← hn0] at FA hlim hbad
      clear hc h hn0 hg hk
      unfold GaveB
      go_enter Tryd.func29, Tryd.ntmps29
      go_wp2_with (go_at_call 36; (with_reducible refine (KO.out).mono ?_); rintro e w1 ⟨rfl, hx1⟩; have q0 : w1.cell? ⟨p, 0, none⟩ = some (.slice A n0 c0) := (FA.out _ hx1).1.cell 0)
      all_goals first
        | (exfalso; omega)
        | (go_ret2; exact ⟨none, 0, rfl, HX.out.ext_to (by repeat (first | with_reducible exact Below.refl _ _ | with_reducible assumption | with_reducible refine ExtD ?_ | with_reducible refine ExtDN ?_ | with_reducible refine ExtA ?_ | (with_reducible refine ExtR ?_ ?_; (first | omega | (dsimp only; omega) | (simp; done) | (simp; omega))) | (with_reducible refine ExtS ?_ ?_; (first | omega | (dsimp only; omega) | (simp; done) | (simp; omega))) | with_reducible refine Ext.tr ?_ (by with_reducible assumption))), World.ownsRow_nil _ _ _ _⟩)
    · obtain ⟨j, rfl⟩ : ∃ j : Nat, i = (j : Nat) := ⟨i.toNat, by omega⟩
      obtain ⟨k, rfl⟩ : ∃ k : Nat, n = (k : Nat) := ⟨n.toNat, by omega⟩
      have hjk : j + k ≤ fd.length := by omega
      have hc : readD d nm (j : Nat) (k : Nat) = ({ d with read := wrap64 (d.read + (k : Nat)) }, (fd.drop j).take k, 0) := by
        unfold readD
        rw [if_neg (by omega), hg]
        exact (if_neg hbad).trans (by simp)
      rw [hc]
      have hcap : fd.length ≤ c0 ∧ c0 ≤ maxLen := by
        rcases (h.fil (⟨nm, fd, fs⟩, p, A, c0) (by simp)).2.2 with ⟨hv, h2⟩ | ⟨g2, cap, cur, hv, _, _, h2, h3, _⟩
        · injection hv with _ h3 h4; dsimp only at h2 h4; omega
        · injection hv with _ h5 h4; dsimp only at h2 h4; subst h4; exact ⟨h2, h3⟩
      obtain ⟨A2, hrun, hrd⟩ := slice_lh A fd.length c0 j (j + k) (by omega) hjk hcap.1
      have e1 : j + k - j = k := by omega
      rw [e1] at hrun hrd
      have hlk : ((fd.drop j).take k).length = k := by rw [List.length_take, List.length_drop]; omega
      have KC := Lib.hid fun (w2 : World) (hr : Rd w2 A2 k (u8s ((fd.drop j).take k))) => clone_any A2 k (c0 - j) ((fd.drop j).take k) w2 hr (by omega)
      unfold NewB at KC
      rw [hlk] at KC
      have Hrun := Lib.hid hrun
      have Hrd := Lib.hid hrd
      obtain ⟨n0, hn0⟩ : ∃ n0, n0 = fd.length := ⟨_, rfl⟩
      rw [← hn0] at FA hlim hbad hjk Hrun Hrd
      have Hn := Lib.hid hn0
      have hjn : (j : Int) + (k : Int) ≤ (n0 : Int) := by omega
      have d1 : decide (n0 < j) = false := by simp; omega
      have d2 : decide ((n0 : Int) - (j : Int) < (k : Int)) = false := by simp; omega
      have hrun : ∀ W : World, (Instr.slice 40 (.slice A n0 c0) (some (.int .i64 (j : Nat))) (some (.int .i64 ((j : Int) + (k : Int)))) none).run Tryd.prog W = .ok (.slice A2 k (c0 - j)) W := Hrun.out
      clear hc h hn0 hg hk hrd hbad hcap hjk e1 Hrun
      unfold GaveB
      rw [hlk]
      go_enter Tryd.func29, Tryd.ntmps29
      go_wp2_with (first
        | (go_at_call 36; (with_reducible refine (KO.out).mono ?_); rintro e w1 ⟨rfl, hx1⟩; have hF := FA.out _ hx1; have hB := K4.out _ hx1; have q0 : w1.cell? ⟨p, 0, none⟩ = some (.slice A n0 c0) := hF.1.cell 0; have q4 : w1.cell? ⟨g, 4, none⟩ = some (.int .i64 d.read) := hB.cell 4; have qf := hB.frozen 4)
        | (go_at_call 40; go_loud ((with_reducible refine (KC.out _ (Hrd.out _ _ (OwnC.set_ hB hF.2 (by decide) 4 _).rd)).mono ?_); rintro e w2 ⟨A3, c3, rfl, hx3, hown3⟩)))
      go_ret2
      have hX2 := (((HX.out.ext_ hx1).cells (d' := { d with read := wrap64 (d.read + (k : Nat)) }) (Blk_eq (BlkS hB) (by simp [fscells])) (grown_setF (grown_rfl w1 g)) rfl).ext_ hx3)
      refine ⟨A3, c3, rfl, hX2.to (((hx1.turn _).tr (Turn.cell foot_g)).tr (hx3.turn _)), own_base hown3 ?_⟩
      have := hx1.size
      simpa using this
  · have KO := Lib.hid (open_bad W w g b d D hs nm _ h rfl)
    have hc : readD d nm i n = (d, [], openE d nm) := by unfold readD; rw [if_pos h0]
    rw [hc]
    have e2 : (((openE d nm : Nat) : Int) != 0) = true := by simp; omega
    clear hc h
    unfold GaveB
    generalize openE d nm = E at *
    go_enter Tryd.func29, Tryd.ntmps29
    go_wp2_with (go_at_call 36; (with_reducible refine (KO.out).mono ?_); rintro e w1 ⟨v, rfl, hx1⟩)
    go_ret2
    exact ⟨none, 0, rfl, HX.out.ext_to (by repeat (first | with_reducible exact Below.refl _ _ | with_reducible assumption | with_reducible refine ExtD ?_ | with_reducible refine ExtDN ?_ | with_reducible refine ExtA ?_ | (with_reducible refine ExtR ?_ ?_; (first | omega | (dsimp only; omega) | (simp; done) | (simp; omega))) | (with_reducible refine ExtS ?_ ?_; (first | omega | (dsimp only; omega) | (simp; done) | (simp; omega))) | with_reducible refine Ext.tr ?_ (by with_reducible assumption))), World.ownsRow_nil _ _ _ _⟩
end Go.Proofs.YtdoaniimfhpjhaaDoor
