/-
  A disk in memory; Mount.
-/
import Derived.Test.YtjajbbgebblalaaGreatDoorLsD
import Derived.Test.YtjajbbgebblalaaGreatDoorFvB
import Derived.StillTailTactics
namespace Go.Proofs.YtjajbbgebblalaaGreatDoor
open Go.RowKit
set_option linter.unusedVariables false
set_option linter.unusedSimpArgs false
open Go.Maps
def mountOne (d : Dk) (f : FV) : Nat :=
  if rightB f.name = false then 50 else if (d.files.any fun x => decide (x.name = f.name)) = true then 52 else if f.safe < 0 ∨ (f.data.length : Int) < f.safe then 1 else if d.room - d.used < (f.data.length : Nat) then 54 else 0
def mountAdd (d : Dk) (f : FV) : Dk := { d with files := d.files ++ [⟨f.name, f.data, f.safe.toNat⟩], used := d.used + (f.data.length : Nat) }
def mountG (d : Dk) : List FV → Dk × Nat
  | [] => (d, 0)
  | f :: r => if mountOne d f = 0 then mountG (mountAdd d f) r else (d, mountOne d f)
def mountD (room : Int) (fs : List FV) : Dk × Nat := if 700 < fs.length then (newD room, 53) else mountG (newD room) fs
theorem mount_ok {d : Dk} {f : FV} (h : mountOne d f = 0) : rightB f.name = true ∧ (d.files.any fun x => decide (x.name = f.name)) = false ∧ 0 ≤ f.safe ∧ f.safe ≤ (f.data.length : Int) ∧ (f.data.length : Int) ≤ d.room - d.used := by
  unfold mountOne at h
  split at h
  · omega
  · rename_i h1
    split at h
    · omega
    · rename_i h2
      split at h
      · omega
      · rename_i h3
        split at h
        · omega
        · rename_i h4
          exact ⟨by simpa using h1, by simpa using h2, by omega, by omega, by omega⟩
theorem inv_mount {d : Dk} (h : DkInv d) {f : FV} (h0 : mountOne d f = 0) (hc : d.files.length < 700) : DkInv (mountAdd d f) := by
  obtain ⟨h1, h2, h3, h4, h5⟩ := mount_ok h0
  have hk : d.used = (sumF d.files : Nat) := h.ok.1
  refine h.of ?_ ?_ rfl ?_ ?_ ?_ h.fuse h.steps ?_ <;> unfold mountAdd <;> dsimp only
  · rw [sumF_app, sumF_one]; dsimp only; omega
  · omega
  · intro x hx
    rcases List.mem_append.1 hx with hx | hx
    · exact h.safe x hx
    · simp at hx; subst hx; dsimp only; omega
  · rw [List.map_append, List.nodup_append]
    refine ⟨h.nd, by simp, fun a ha c hc hac => ?_⟩
    simp at hc
    subst hc hac
    obtain ⟨x, hx, he⟩ := List.mem_map.1 ha
    rw [List.any_eq_false] at h2
    exact h2 x hx (by simpa using he)
  · intro x hx
    rcases List.mem_append.1 hx with hx | hx
    · exact h.rt x hx
    · simp at hx; subst hx; exact h1
  · simp; omega
/-- A file's block with bytes of its own, and its name in the map. -/
theorem fs_newD {W w w2 w3 : World} {g b n c2 s : Nat} {A2 : Option Addr} {l : List UInt8} {d : Dk} {D : DataW Value} {hs : List HF} {nm : ByteArray} (h : FsX W w g d b D hs) (hn : (d.files.any fun f => decide (f.name = nm)) = false) (hc : hs.length < 700)
    (hx : Ext w w2) (hl : w2.ownsRow w.heap.size 5 1 (.slice A2 n c2) n (u8s l))
    (ho : OwnM w3 b (D.put (nmLit nm) (.held (ptrV w2.heap.size)))) (hg : (w2.alloc (.cells #[.slice A2 n c2, .int .i64 (s : Nat)] 111)).grownBy w3 (some b)) : FsTo W w w3 g b hs { d with files := d.files ++ [⟨nm, l, s⟩] } := by
  have hln : l.length = n := by have := hl.1; rw [u8s_len] at this; omega
  subst hln
  have ht : Turn [b] w w3 := ((ExtA hx).turn [b]).tr (grown_turn hg (fun r hr => by injection hr with hr; subst hr; exact .inl (by simp)))
  have hnx : ∀ x ∈ hs.map (fun h => (h.1.name, h.2.1)), x.1 ≠ nm := fun x hx hc => by
    obtain ⟨f, hf, rfl⟩ := List.mem_map.1 hx
    rw [← h.hsd, List.any_eq_false] at hn
    exact hn f.1 (List.mem_map.2 ⟨f, hf, rfl⟩) (by simpa using hc)
  have hbl := h.lt _ foot_b
  have hz := hx.size
  have hsz : w2.heap.size + 1 ≤ w3.heap.size := by have := hg.size; simpa using this
  have hA : ∀ r, A2.map (·.block) = some r → w.heap.size ≤ r ∧ r < w2.heap.size := fun r hr => hl.lt r (by cases A2 <;> simp_all [Value.ownBlock])
  have hfo : foot g b (hs ++ [(⟨nm, l, s⟩, w2.heap.size, A2, c2)]) = foot g b hs ++ footH (⟨nm, l, s⟩, w2.heap.size, A2, c2) := by simp [foot]
  have hfh : ∀ r ∈ footH (⟨nm, l, s⟩, w2.heap.size, A2, c2), w.heap.size ≤ r ∧ r < w3.heap.size := fun r hr => by
    rcases List.mem_cons.1 hr with hr | hr
    · subst hr; dsimp only; omega
    · cases A2 with
      | none => cases hr
      | some a => simp at hr; subst hr; have := hA a.block rfl; omega
  have hown3 : w3.ownsRow W.heap.size 5 1 (.slice A2 l.length c2) l.length (u8s l) := by
    refine own_base ((hl.alloc _).kept hg ?_) h.ext.size
    cases A2 with
    | none => exact .inl rfl
    | some a => exact .inr (fun hc => by injection hc with hc; have := (hA a.block rfl).1; omega)
  refine ⟨_, hs ++ [(⟨nm, l, s⟩, w2.heap.size, A2, c2)], { ext := ht.ext h.ext (fun r hr => by simp at hr; subst hr; exact h.base _ foot_b), blk := ht.blk h.blk (by simpa using foot_gb h.dis), own := ho, map := ?_, fil := fun f hf => ?_, dis := ?_, base := fun r hr => ?_, lt := fun r hr => ?_, hsd := by simp [h.hsd], cnt := by simp; omega }, ht.mono (fun r hr => by simp at hr; subst hr; exact .inl foot_b), fun r hr => ?_⟩
  · rw [List.map_append]
    exact map_put h.map nm _ hnx
  · rcases List.mem_append.1 hf with hf | hf
    · exact (h.fil f hf).turn ht (fun r hr => by simpa using (foot_gh h.dis hf hr).2)
    · simp only [List.mem_singleton] at hf
      subst hf
      exact ⟨BlkG (BlkN rfl) hg (by simp; omega), OwnC.of_own hown3⟩
  · rw [hfo, List.nodup_append]
    refine ⟨h.dis, ?_, fun a ha c hc hac => ?_⟩
    · cases A2 with
      | none => simp [footH]
      | some a => simp [footH]; have := (hA a.block rfl).2; omega
    · subst hac
      have := h.lt a ha
      have := (hfh a hc).1
      omega
  · rw [hfo] at hr
    rcases List.mem_append.1 hr with hr | hr
    · exact h.base r hr
    · exact Nat.le_trans h.ext.size (hfh r hr).1
  · rw [hfo] at hr
    rcases List.mem_append.1 hr with hr | hr
    · have := h.lt r hr; omega
    · exact (hfh r hr).2
  · rw [hfo] at hr
    rcases List.mem_append.1 hr with hr | hr
    · exact .inl hr
    · exact .inr (hfh r hr).1
theorem wpL_load_file {w : World} {ops : Array Oper} {rest : List Oper} {op : Oper} {a : Act} {Q : Exit → Act → World → Prop} (hgd : op.guard = none) (x : Operand) (ho : op.op = .load 58 x)
    (b o : Nat) (hx : a.eval x = .pointer (some ⟨b, o, none⟩)) (cs : Array Value) (hc : w.rangeAt b o cs.toList) (hs : cs.size = 3)
    (hK : wpList Tryz.prog ops Q rest (a.put op.dst (.agg cs)) w) : wpList Tryz.prog ops Q (op :: rest) a w := by
  obtain ⟨⟨d, hu, hd⟩, hi⟩ := fil_wide
  exact wpList_load_mid hgd 58 x ho b o hx cs.toList d hc hu (by revert hd; cases d <;> simp [TypeDesc.isRow]) (by rw [Array.length_toList, hs]; exact hi) hK
theorem fileOne (nm : ByteArray) (A : Option Addr) (n c : Nat) (s : Int) : ∀ u ∈ (#[.string nm, .slice A n c, .int .i64 s] : Array Value).toList, u.oneCell' = true := fun u hu => by
  simp only [List.mem_cons, List.not_mem_nil, or_false] at hu
  rcases hu with rfl | rfl | rfl <;> rfl
def MountPost (w : World) (r : Dk × Nat) (e : Ending) (w' : World) : Prop :=
  if r.2 = 0 then ∃ g b D hs, e = .returned (.tuple #[.pointer (some ⟨g, 0, none⟩), .int .i64 0]) ∧ FsX w w' g r.1 b D hs else e = .returned (.tuple #[.pointer none, .int .i64 (r.2 : Nat)]) ∧ Ext w w'
def MountR (w : World) (g b : Nat) (room : Int) (fs : List FV) (c16 : Value) (wr : World) : Prop :=
  ∃ (k : Nat) (d : Dk) (D : DataW Value) (hs : List HF), c16 = .int .i64 k ∧ k ≤ fs.length ∧ FsX w wr g d b D hs ∧ DkInv d ∧ d.files.length = k ∧ mountG d (fs.drop k) = mountG (newD room) fs
set_option maxRecDepth 100000 in
set_option maxHeartbeats 8000000 in
theorem mount_any (room : Int) (A : Option Addr) (n c : Nat) (fs : List FV) (w : World) (hr : FlRd w A n fs) (hl : ∀ f ∈ fs, f.data.length ≤ 140737488351232 ∧ IsI64 f.safe) :
    Calls Tryz.prog 11 #[.int .i64 room, .slice A n c] w (MountPost w (mountD room fs)) := by
  have KN := Lib.hid (newK room)
  have Hlen := Lib.hid hr.len
  have Hl := Lib.hid hl
  have hal := alloc_fil
  clear hl
  by_cases h7 : 700 < n
  · have e : mountD room fs = (newD room, 53) := by unfold mountD; rw [if_pos (by rw [Hlen.out]; exact h7)]
    rw [e]
    have d1 : decide ((700 : Int) < (n : Nat)) = true := by simp; omega
    clear hr e
    go_enter Tryz.func11, Tryz.ntmps11
    go_wp2_with (go_at_call 51; (with_reducible refine (KN.out _).mono ?_); rintro e w2 ⟨g, b, rfl, hX2⟩)
    go_ret2
    exact ⟨rfl, hX2.ext⟩
  · have e : mountD room fs = mountG (newD room) fs := by unfold mountD; rw [if_neg (by rw [Hlen.out]; exact h7)]
    rw [e]
    have d1 : decide ((700 : Int) < (n : Nat)) = false := by simp; omega
    clear e
    go_enter Tryz.func11, Tryz.ntmps11
    go_wp2_with (go_at_call 51; (with_reducible refine (KN.out _).mono ?_); rintro e w2 ⟨g, b, rfl, hX2⟩)
    go_loopw [16] (fun c16 wr => MountR w g b room fs c16 wr) (fun c16 _ => n - (intOf c16).toNat)
    case atStart => exact ⟨0, newD room, _, _, rfl, by omega, hX2, inv_new room, rfl, rfl⟩
    case round =>
      obtain ⟨k, d, D, hs, rfl, hkn, hX, hI, hfl, hG⟩ := hrel
      have HG := Lib.hid hG
      have HX := Lib.hid hX
      have HI := Lib.hid hI
      have Hfl := Lib.hid hfl
      rw [Hlen.out] at hkn
      clear hG hI hfl
      by_cases hlt : k < n
      · obtain ⟨fb, fo, f, Af, cf, hfk, rfl, hc, hrf⟩ := fl_at (hr.ext hX.ext) hlt
        have hff := Hl.out f (List.mem_of_getElem? hfk)
        have hdr : fs.drop k = f :: fs.drop (k + 1) := by
          have hkl : k < fs.length := by have := Hlen.out; omega
          rw [List.drop_eq_getElem_cons hkl]
          rw [List.getElem?_eq_getElem hkl] at hfk
          injection hfk with hfk
          rw [hfk]
        have HG2 := Lib.hid (show (if mountOne d f = 0 then mountG (mountAdd d f) (fs.drop (k + 1)) else (d, mountOne d f)) = mountG (newD room) fs from by rw [← HG.out, hdr]; rfl)
        clear hX hdr hfk
        obtain ⟨nm, fd, sf⟩ := f
        have R := Lib.hid (right_any nm)
        dsimp only at hff hrf
        have hfd := hff.1
        have hsf := hff.2
        unfold IsI64 at hsf
        obtain ⟨n0, hn0⟩ : ∃ n0, n0 = fd.length := ⟨_, rfl⟩
        have Hn0 := Lib.hid hn0
        have Hc := Lib.hid (show wr.rangeAt fb (fo + k * 3) (#[.string nm, .slice Af n0 cf, .int .i64 sf] : Array Value).toList from by rw [hn0]; exact hc)
        clear hc
        have Bx := Lib.hid fun (w1 : World) (hx : Ext (wr.alloc (.cells #[.string nm, .slice Af n0 cf, .int .i64 sf] 58)) w1) => (show Blk w1 wr.heap.size 58 #[.string nm, .slice Af n0 cf, .int .i64 sf] from hx.blk (BlkN rfl))
        rw [← hn0] at hfd
        clear hff hn0
        have fin : ∀ (E : Nat) (w' : World), mountOne d ⟨nm, fd, sf⟩ = E → E ≠ 0 → Ext w w' → MountPost w (mountG (newD room) fs) (.returned (.tuple #[.pointer none, .int .i64 (E : Nat)])) w' := fun E w' h1 h2 hx => by
          rw [← HG2.out, h1, if_neg h2]
          unfold MountPost
          rw [if_neg h2]
          exact ⟨rfl, hx⟩
        have Fin := Lib.hid fin
        clear fin
        by_cases hrt : rightB nm = true
        · rw [hrt] at R
          by_cases hin : (d.files.any fun x => decide (x.name = nm)) = true
          · have h52 := Lib.hid (show mountOne d ⟨nm, fd, sf⟩ = 52 by unfold mountOne; rw [if_neg (by simp [hrt]), if_pos hin])
            obtain ⟨fh, hfh, hfn⟩ : ∃ fh ∈ hs, fh.1.name = nm := by
              rw [← HX.out.hsd, List.any_eq_true] at hin
              obtain ⟨x, hx, hn⟩ := hin
              obtain ⟨h, hh, rfl⟩ := List.mem_map.1 hx
              exact ⟨h, hh, by simpa using hn⟩
            have HL := Lib.hid fun (w1 : World) (hx : Ext wr w1) (m : Nat) => look_hit (nm := nm) (p := fh.2.1) (HX.out.ext_ (hx.tr (ExtDN (Ext.rfl' w1) (n := m)))).own HX.out.map (List.mem_map.2 ⟨fh, hfh, by rw [hfn]⟩) (by rw [← hfn]; exact name_len HX.out hfh)
            unfold ptrV at HL
            clear hrt hin hfn
            go_wp2_with (first | (change wpList _ _ _ (⟨some 19, _, _, _, _, _⟩ :: _) _ _; refine wpL_load_file rfl (.tmp 18) rfl fb (fo + k * 3) rfl #[.string nm, .slice Af n0 cf, .int .i64 sf] Hc.out rfl ?_) | (change wpList _ _ _ (⟨none, .store _ (.tmp 8) _, _, _, _, _⟩ :: _) _ _; refine wpL_store_new rfl 58 (.tmp 8) (.tmp 19) rfl wr.heap.size 58 (flcells ⟨⟨#[]⟩, [], 0⟩ none 0) #[.string nm, .slice Af n0 cf, .int .i64 sf] rfl rfl rfl rfl (fileOne nm Af n0 cf sf) 3 fil_wide rfl ?_) | (go_at_call 52; go_loud ((with_reducible refine (R.out _).mono ?_); rintro e w1 ⟨rfl, hx1⟩; have hB := Bx.out w1 hx1; have b0 : w1.cell? ⟨wr.heap.size, 0, none⟩ = some (.string nm) := hB.cell 0; have b1 : w1.cell? ⟨wr.heap.size, 1, none⟩ = some (.slice Af n0 cf) := hB.cell 1; have b2 : w1.cell? ⟨wr.heap.size, 2, none⟩ = some (.int .i64 sf) := hB.cell 2; have hxw : Ext wr w1 := (ExtA (Ext.rfl' wr)).tr hx1; have hX1 := HX.out.ext_ hxw; have g0 : w1.cell? ⟨g, 0, none⟩ = some (.map (some b)) := hX1.blk.cell 0; have g1 : w1.cell? ⟨g, 1, none⟩ = some (.int .i64 d.room) := hX1.blk.cell 1; have g2 : w1.cell? ⟨g, 2, none⟩ = some (.int .i64 d.used) := hX1.blk.cell 2)))
            have hl := HL.out w1 hxw
            go_quiet (fail)
            go_wp2_with fail
            go_ret2
            exact Fin.out 52 _ h52.out (by decide) (by have hX9 := hX1.ext; exact hX9.tr (by repeat (first | with_reducible exact Below.refl _ _ | with_reducible assumption | with_reducible refine ExtD ?_ | with_reducible refine ExtDN ?_ | with_reducible refine ExtA ?_ | (with_reducible refine ExtR ?_ ?_; (first | omega | (dsimp only; omega) | (simp; done) | (simp; omega))) | (with_reducible refine ExtS ?_ ?_; (first | omega | (dsimp only; omega) | (simp; done) | (simp; omega))) | with_reducible refine Ext.tr ?_ (by with_reducible assumption))))
          · have hin' : (d.files.any fun x => decide (x.name = nm)) = false := by simpa using hin
            have HM := Lib.hid fun (w1 : World) (hx : Ext wr w1) (m : Nat) => look_miss (nm := nm) (HX.out.ext_ (hx.tr (ExtDN (Ext.rfl' w1) (n := m)))).own HX.out.map (fun x hx2 hc => by
              obtain ⟨f, hf, rfl⟩ := List.mem_map.1 hx2
              rw [← HX.out.hsd, List.any_eq_false] at hin'
              exact hin' f.1 (List.mem_map.2 ⟨f, hf, rfl⟩) (by simpa using hc)) (by have := rightB_size hrt; simp only [maxLen]; omega)
            by_cases hbad : sf < 0 ∨ (n0 : Int) < sf
            · have h1 := Lib.hid (show mountOne d ⟨nm, fd, sf⟩ = 1 by unfold mountOne; rw [if_neg (by simp [hrt]), if_neg hin, if_pos (by rw [← Hn0.out]; exact hbad)])
              clear hrt hin hin'
              go_wp2_with (first | (change wpList _ _ _ (⟨some 19, _, _, _, _, _⟩ :: _) _ _; refine wpL_load_file rfl (.tmp 18) rfl fb (fo + k * 3) rfl #[.string nm, .slice Af n0 cf, .int .i64 sf] Hc.out rfl ?_) | (change wpList _ _ _ (⟨none, .store _ (.tmp 8) _, _, _, _, _⟩ :: _) _ _; refine wpL_store_new rfl 58 (.tmp 8) (.tmp 19) rfl wr.heap.size 58 (flcells ⟨⟨#[]⟩, [], 0⟩ none 0) #[.string nm, .slice Af n0 cf, .int .i64 sf] rfl rfl rfl rfl (fileOne nm Af n0 cf sf) 3 fil_wide rfl ?_) | (go_at_call 52; go_loud ((with_reducible refine (R.out _).mono ?_); rintro e w1 ⟨rfl, hx1⟩; have hB := Bx.out w1 hx1; have b0 : w1.cell? ⟨wr.heap.size, 0, none⟩ = some (.string nm) := hB.cell 0; have b1 : w1.cell? ⟨wr.heap.size, 1, none⟩ = some (.slice Af n0 cf) := hB.cell 1; have b2 : w1.cell? ⟨wr.heap.size, 2, none⟩ = some (.int .i64 sf) := hB.cell 2; have hxw : Ext wr w1 := (ExtA (Ext.rfl' wr)).tr hx1; have hX1 := HX.out.ext_ hxw; have g0 : w1.cell? ⟨g, 0, none⟩ = some (.map (some b)) := hX1.blk.cell 0; have g1 : w1.cell? ⟨g, 1, none⟩ = some (.int .i64 d.room) := hX1.blk.cell 1; have g2 : w1.cell? ⟨g, 2, none⟩ = some (.int .i64 d.used) := hX1.blk.cell 2)))
              have hl := HM.out w1 hxw
              go_quiet (fail)
              go_wp2_with fail
              all_goals first
                | (exfalso; omega)
                | (go_ret2; exact Fin.out 1 _ h1.out (by decide) (by have hX9 := hX1.ext; exact hX9.tr (by repeat (first | with_reducible exact Below.refl _ _ | with_reducible assumption | with_reducible refine ExtD ?_ | with_reducible refine ExtDN ?_ | with_reducible refine ExtA ?_ | (with_reducible refine ExtR ?_ ?_; (first | omega | (dsimp only; omega) | (simp; done) | (simp; omega))) | (with_reducible refine ExtS ?_ ?_; (first | omega | (dsimp only; omega) | (simp; done) | (simp; omega))) | with_reducible refine Ext.tr ?_ (by with_reducible assumption)))))
            · have hb1 : decide (sf < 0) = false := by simp; omega
              have hb2 : decide ((n0 : Int) < sf) = false := by simp; omega
              by_cases hfull : d.room - d.used < (n0 : Nat)
              · have h54 := Lib.hid (show mountOne d ⟨nm, fd, sf⟩ = 54 by unfold mountOne; rw [if_neg (by simp [hrt]), if_neg hin, if_neg (by rw [← Hn0.out]; exact hbad), if_pos (by rw [← Hn0.out]; exact hfull)])
                have hb3 : decide (d.room - d.used < (n0 : Nat)) = true := by simpa using hfull
                have hwr : IntKind.i64.wrap (d.room - d.used) = d.room - d.used := by have := HI.out.ok.2.1; have := HI.out.ok.2.2; have := HI.out.room; have h0 : d.used = (sumF d.files : Nat) := HI.out.ok.1; rw [IntKind.wrap_i64]; omega
                clear hrt hin hin' hbad hfull
                go_wp2_with (first | (change wpList _ _ _ (⟨some 19, _, _, _, _, _⟩ :: _) _ _; refine wpL_load_file rfl (.tmp 18) rfl fb (fo + k * 3) rfl #[.string nm, .slice Af n0 cf, .int .i64 sf] Hc.out rfl ?_) | (change wpList _ _ _ (⟨none, .store _ (.tmp 8) _, _, _, _, _⟩ :: _) _ _; refine wpL_store_new rfl 58 (.tmp 8) (.tmp 19) rfl wr.heap.size 58 (flcells ⟨⟨#[]⟩, [], 0⟩ none 0) #[.string nm, .slice Af n0 cf, .int .i64 sf] rfl rfl rfl rfl (fileOne nm Af n0 cf sf) 3 fil_wide rfl ?_) | (go_at_call 52; go_loud ((with_reducible refine (R.out _).mono ?_); rintro e w1 ⟨rfl, hx1⟩; have hB := Bx.out w1 hx1; have b0 : w1.cell? ⟨wr.heap.size, 0, none⟩ = some (.string nm) := hB.cell 0; have b1 : w1.cell? ⟨wr.heap.size, 1, none⟩ = some (.slice Af n0 cf) := hB.cell 1; have b2 : w1.cell? ⟨wr.heap.size, 2, none⟩ = some (.int .i64 sf) := hB.cell 2; have hxw : Ext wr w1 := (ExtA (Ext.rfl' wr)).tr hx1; have hX1 := HX.out.ext_ hxw; have g0 : w1.cell? ⟨g, 0, none⟩ = some (.map (some b)) := hX1.blk.cell 0; have g1 : w1.cell? ⟨g, 1, none⟩ = some (.int .i64 d.room) := hX1.blk.cell 1; have g2 : w1.cell? ⟨g, 2, none⟩ = some (.int .i64 d.used) := hX1.blk.cell 2)))
                have hl := HM.out w1 hxw
                go_quiet (fail)
                go_wp2_with fail
                go_quiet (fail)
                go_wp2_with fail
                go_ret2
                exact Fin.out 54 _ h54.out (by decide) (by have hX9 := hX1.ext; exact hX9.tr (by repeat (first | with_reducible exact Below.refl _ _ | with_reducible assumption | with_reducible refine ExtD ?_ | with_reducible refine ExtDN ?_ | with_reducible refine ExtA ?_ | (with_reducible refine ExtR ?_ ?_; (first | omega | (dsimp only; omega) | (simp; done) | (simp; omega))) | (with_reducible refine ExtS ?_ ?_; (first | omega | (dsimp only; omega) | (simp; done) | (simp; omega))) | with_reducible refine Ext.tr ?_ (by with_reducible assumption))))
              · obtain ⟨s, hs0⟩ : ∃ s : Nat, sf = (s : Nat) := ⟨sf.toNat, by omega⟩
                have Hs0 := Lib.hid hs0
                have h0 := Lib.hid (show mountOne d ⟨nm, fd, sf⟩ = 0 by unfold mountOne; rw [if_neg (by simp [hrt]), if_neg hin, if_neg (by rw [← Hn0.out]; exact hbad), if_neg (by rw [← Hn0.out]; exact hfull)])
                have hb3 : decide (d.room - d.used < (n0 : Nat)) = false := by simpa using hfull
                have h0u : 0 ≤ d.used := by have h0 : d.used = (sumF d.files : Nat) := HI.out.ok.1; omega
                have hrm := HI.out.ok.2.2
                have hwr : IntKind.i64.wrap (d.room - d.used) = d.room - d.used := by have := HI.out.ok.2.1; have := HI.out.room; rw [IntKind.wrap_i64]; omega
                have hwr2 : IntKind.i64.wrap (d.used + (n0 : Nat)) = d.used + (n0 : Nat) := by have := HI.out.ok.2.1; rw [IntKind.wrap_i64]; omega
                have hns : nm.size ≤ maxLen := by have := rightB_size hrt; simp only [maxLen]; omega
                have hcn : hs.length = k := by have := HX.out.hsd; have h2 := congrArg List.length this; rw [List.length_map] at h2; rw [h2]; exact Hfl.out
                have Hhin := Lib.hid hin'
                have KC := Lib.hid fun (w2 : World) (hx2 : Ext wr w2) => clone_any Af fd.length cf fd w2 (hrf.ext hx2) (by rw [← Hn0.out]; omega)
                unfold NewB at KC
                rw [← Hn0.out] at KC
                have Hcn := Lib.hid hcn
                clear hrt hin hin' hbad hfull hcn hs0
                go_wp2_with (first | (change wpList _ _ _ (⟨some 19, _, _, _, _, _⟩ :: _) _ _; refine wpL_load_file rfl (.tmp 18) rfl fb (fo + k * 3) rfl #[.string nm, .slice Af n0 cf, .int .i64 sf] Hc.out rfl ?_) | (change wpList _ _ _ (⟨none, .store _ (.tmp 8) _, _, _, _, _⟩ :: _) _ _; refine wpL_store_new rfl 58 (.tmp 8) (.tmp 19) rfl wr.heap.size 58 (flcells ⟨⟨#[]⟩, [], 0⟩ none 0) #[.string nm, .slice Af n0 cf, .int .i64 sf] rfl rfl rfl rfl (fileOne nm Af n0 cf sf) 3 fil_wide rfl ?_) | (go_at_call 52; go_loud ((with_reducible refine (R.out _).mono ?_); rintro e w1 ⟨rfl, hx1⟩; have hB := Bx.out w1 hx1; have b0 : w1.cell? ⟨wr.heap.size, 0, none⟩ = some (.string nm) := hB.cell 0; have b1 : w1.cell? ⟨wr.heap.size, 1, none⟩ = some (.slice Af n0 cf) := hB.cell 1; have b2 : w1.cell? ⟨wr.heap.size, 2, none⟩ = some (.int .i64 sf) := hB.cell 2; have hxw : Ext wr w1 := (ExtA (Ext.rfl' wr)).tr hx1; have hX1 := HX.out.ext_ hxw; have g0 : w1.cell? ⟨g, 0, none⟩ = some (.map (some b)) := hX1.blk.cell 0; have g1 : w1.cell? ⟨g, 1, none⟩ = some (.int .i64 d.room) := hX1.blk.cell 1; have g2 : w1.cell? ⟨g, 2, none⟩ = some (.int .i64 d.used) := hX1.blk.cell 2)))
                have hl := HM.out w1 hxw
                go_quiet (fail)
                go_wp2_with fail
                go_quiet (fail)
                go_wp2_with fail
                have HS := Lib.hid fun (w' : World) (hx' : Ext w1 w') => (show w'.cell? ⟨wr.heap.size, 0, none⟩ = some (.string nm) ∧ w'.cell? ⟨wr.heap.size, 1, none⟩ = some (.slice Af n0 cf) ∧ w'.cell? ⟨wr.heap.size, 2, none⟩ = some (.int .i64 sf) ∧ w'.cell? ⟨g, 0, none⟩ = some (.map (some b)) from ⟨hx'.cell b0, hx'.cell b1, hx'.cell b2, hx'.cell g0⟩)
                have HB := Lib.hid hB
                have Hhl := Lib.hid hl
                have HX1 := Lib.hid hX1
                clear hB hl b0 b1 b2 g0 g1 g2 hX1
                have hbx : some wr.heap.size ≠ some b := fun hc => by injection hc with hc; have := HX.out.lt _ (foot_b (g := g) (hs := hs)); omega
                have hbg : some g ≠ some b := fun hc => by injection hc with hc; exact foot_gb HX.out.dis hc
                go_region_held3 (fun w' => w'.cell? ⟨wr.heap.size, 0, none⟩ = some (.string nm) ∧ w'.cell? ⟨wr.heap.size, 1, none⟩ = some (.slice Af n0 cf) ∧ w'.cell? ⟨wr.heap.size, 2, none⟩ = some (.int .i64 sf) ∧ w'.cell? ⟨g, 0, none⟩ = some (.map (some b))) (first | exact hS5 | exact HS.out _ (by repeat (first | with_reducible exact Below.refl _ _ | with_reducible assumption | with_reducible refine ExtD ?_ | with_reducible refine ExtDN ?_ | with_reducible refine ExtA ?_ | (with_reducible refine ExtR ?_ ?_; (first | omega | (dsimp only; omega) | (simp; done) | (simp; omega))) | (with_reducible refine ExtS ?_ ?_; (first | omega | (dsimp only; omega) | (simp; done) | (simp; omega))) | with_reducible refine Ext.tr ?_ (by with_reducible assumption))))
                  (first
                    | (go_at_call 53; go_loud ((with_reducible refine (KC.out _ (by repeat (first | with_reducible exact Below.refl _ _ | with_reducible assumption | with_reducible refine ExtD ?_ | with_reducible refine ExtDN ?_ | with_reducible refine ExtA ?_ | (with_reducible refine ExtR ?_ ?_; (first | omega | (dsimp only; omega) | (simp; done) | (simp; omega))) | (with_reducible refine ExtS ?_ ?_; (first | omega | (dsimp only; omega) | (simp; done) | (simp; omega))) | with_reducible refine Ext.tr ?_ (by with_reducible assumption)))).mono ?_); rintro e w3 ⟨A3, c3, rfl, hx3, hown3⟩; have hx13 : Ext w1 w3 := (by repeat (first | with_reducible exact Below.refl _ _ | with_reducible assumption | with_reducible refine ExtD ?_ | with_reducible refine ExtDN ?_ | with_reducible refine ExtA ?_ | (with_reducible refine ExtR ?_ ?_; (first | omega | (dsimp only; omega) | (simp; done) | (simp; omega))) | (with_reducible refine ExtS ?_ ?_; (first | omega | (dsimp only; omega) | (simp; done) | (simp; omega))) | with_reducible refine Ext.tr ?_ (by with_reducible assumption))); have hxz : Ext w1 (w3.alloc (.cells #[.slice A3 n0 c3, .int .i64 sf] 111)) := ExtA hx13; obtain ⟨w5, hrun5, hown5, hgr5⟩ := map_store (HX1.out.ext_ hxz).own HX.out.map (by rw [List.length_map, Hcn.out]; omega) (nm := nm) w3.heap.size hns; unfold ptrV at hrun5; have hB5 := BlkG (hxz.blk HB.out) hgr5 hbx; have hG5 := BlkG (HX1.out.ext_ hxz).blk hgr5 hbg; have hS5 := And.intro (hB5.cell 0) (And.intro (hB5.cell 1) (And.intro (hB5.cell 2) (hG5.cell 0))))))
                have hT := fs_newD HX1.out Hhin.out (by rw [Hcn.out]; omega) hx13 (own_base hown3 (by simp)) hown5 (by have := hgr5; rw [Hs0.out] at this; exact this)
                obtain ⟨D5, hs5, hX5, ht5, hf5⟩ := hT
                have hgu : w5.cell? ⟨g, 2, none⟩ = some (.int .i64 d.used) := hG5.cell 2
                have hgf := hG5.frozen 2
                have hb1 : w5.cell? ⟨wr.heap.size, 1, none⟩ = some (.slice Af n0 cf) := hB5.cell 1
                go_wp2_with fail
                go_still_tail 10, (by kernel_rfl)
                change wpList _ _ _ _ _ w5.drew
                have hX6 := hX5.ext_ (ExtD (Ext.rfl' w5))
                have hG6 := BlkD hG5
                have hB6 := BlkD hB5
                clear hgu hgf hb1 hG5 hB5 hX5 ht5 hf5 hS5 hown5 hgr5 hrun5 HS
                generalize w5.drew = w6 at *
                have hgu : w6.cell? ⟨g, 2, none⟩ = some (.int .i64 d.used) := hG6.cell 2
                have hgf := hG6.frozen 2
                have hb1 : w6.cell? ⟨wr.heap.size, 1, none⟩ = some (.slice Af n0 cf) := hB6.cell 1
                go_wp2_with fail
                go_roundw
                case rel =>
                  have hX7 : FsX w (w6.setCell ⟨g, 2, none⟩ (.int .i64 (d.used + (n0 : Nat)))) g { ({ d with files := d.files ++ [(⟨nm, fd, s⟩ : Fil)] } : Dk) with used := d.used + (n0 : Nat) } b D5 hs5 := hX6.cells (Blk_eq (BlkS hX6.blk) (by simp [fscells])) (grown_setF (grown_rfl w6 g)) rfl
                  have he : mountAdd d ⟨nm, fd, sf⟩ = { ({ d with files := d.files ++ [(⟨nm, fd, s⟩ : Fil)] } : Dk) with used := d.used + (n0 : Nat) } := by
                    unfold mountAdd
                    dsimp only
                    rw [Hn0.out, Hs0.out]
                    rfl
                  rw [← he] at hX7
                  refine ⟨k + 1, mountAdd d ⟨nm, fd, sf⟩, D5, hs5, by go_num, by have := Hlen.out; omega, hX7, inv_mount HI.out h0.out (by rw [Hfl.out]; omega), ?_, ?_⟩
                  · unfold mountAdd; dsimp only; rw [List.length_append, Hfl.out]; rfl
                  · rw [← HG2.out, if_pos h0.out]
                case measure => simp [intOf]; omega
        · have h50 := Lib.hid (show mountOne d ⟨nm, fd, sf⟩ = 50 by unfold mountOne; rw [if_pos (by simpa using hrt)])
          rw [show rightB nm = false by simpa using hrt] at R
          clear hrt
          go_wp2_with (first | (change wpList _ _ _ (⟨some 19, _, _, _, _, _⟩ :: _) _ _; refine wpL_load_file rfl (.tmp 18) rfl fb (fo + k * 3) rfl #[.string nm, .slice Af n0 cf, .int .i64 sf] Hc.out rfl ?_) | (change wpList _ _ _ (⟨none, .store _ (.tmp 8) _, _, _, _, _⟩ :: _) _ _; refine wpL_store_new rfl 58 (.tmp 8) (.tmp 19) rfl wr.heap.size 58 (flcells ⟨⟨#[]⟩, [], 0⟩ none 0) #[.string nm, .slice Af n0 cf, .int .i64 sf] rfl rfl rfl rfl (fileOne nm Af n0 cf sf) 3 fil_wide rfl ?_) | (go_at_call 52; go_loud ((with_reducible refine (R.out _).mono ?_); rintro e w1 ⟨rfl, hx1⟩; have hB := Bx.out w1 hx1; have b0 : w1.cell? ⟨wr.heap.size, 0, none⟩ = some (.string nm) := hB.cell 0; have b1 : w1.cell? ⟨wr.heap.size, 1, none⟩ = some (.slice Af n0 cf) := hB.cell 1; have b2 : w1.cell? ⟨wr.heap.size, 2, none⟩ = some (.int .i64 sf) := hB.cell 2; have hxw : Ext wr w1 := (ExtA (Ext.rfl' wr)).tr hx1; have hX1 := HX.out.ext_ hxw; have g0 : w1.cell? ⟨g, 0, none⟩ = some (.map (some b)) := hX1.blk.cell 0; have g1 : w1.cell? ⟨g, 1, none⟩ = some (.int .i64 d.room) := hX1.blk.cell 1; have g2 : w1.cell? ⟨g, 2, none⟩ = some (.int .i64 d.used) := hX1.blk.cell 2)))
          go_ret2
          exact Fin.out 50 _ h50.out (by decide) hX1.ext
      · obtain rfl : k = n := by omega
        have hd0 : fs.drop k = [] := List.drop_of_length_le (by have := Hlen.out; omega)
        have HE := Lib.hid (show mountG (newD room) fs = (d, 0) by rw [← HG.out, hd0]; rfl)
        clear hX hd0
        go_wp2_with fail
        go_ret2
        unfold MountPost
        rw [HE.out]
        exact ⟨g, b, D, hs, rfl, HX.out⟩
theorem inv_mountG (fs : List FV) : ∀ d d' : Dk, DkInv d → d.files.length + fs.length ≤ 700 → mountG d fs = (d', 0) → DkInv d' ∧ d'.steps = d.steps ∧ d'.room = d.room := by
  induction fs with
  | nil =>
    intro d d' h _ he
    injection he with he
    subst he
    exact ⟨h, rfl, rfl⟩
  | cons f r ih =>
    intro d d' h hl he
    unfold mountG at he
    split at he
    · rename_i h0
      rw [List.length_cons] at hl
      have := ih (mountAdd d f) d' (inv_mount h h0 (by omega)) (by unfold mountAdd; dsimp only; rw [List.length_append, List.length_singleton]; omega) he
      exact this
    · rename_i h0
      injection he with _ he
      exact absurd he h0
theorem inv_mountD {room : Int} {fs : List FV} {d' : Dk} (h : mountD room fs = (d', 0)) : DkInv d' ∧ d'.steps = 0 ∧ d'.room = (newD room).room := by
  unfold mountD at h
  split at h
  · injection h with _ h; omega
  · exact inv_mountG fs (newD room) d' (inv_new room) (by show 0 + fs.length ≤ 700; omega) h
end Go.Proofs.YtjajbbgebblalaaGreatDoor
