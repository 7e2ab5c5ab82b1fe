/-
  The walks of a reader: NewReader, take, Num, Int, Text, Err.
-/
/-
  The walks of a reader: Num, Int, Text, Err; Zag on both sides.
-/
/-
  A reader by what it holds: the tags that were asked for stand from one on; its calls over one relation.
-/
import Derived.Test.YtjajbbgebblalaaGreatDoorTurnB
import Derived.Test.YtjajbbgebblalaaGreatDoorCurW
import Derived.StillTailTactics
import Derived.Test.YtjajbbgebblalaaGreatDoorVarP
import Derived.Laws.DeepNot64
import Derived.Laws.Bits64b
import Derived.Laws.BytesArg
import Derived.Laws.IdiomStrings
namespace Go.Proofs.YtjajbbgebblalaaGreatDoor
open Go.RowKit
set_option linter.unusedVariables false
set_option linter.unusedSimpArgs false
open Go.Maps
abbrev RdB (w : World) (g b : Nat) (bad : Nat) : Prop := Blk w g 263 #[.map (some b), .int .i64 (bad : Nat)]
/-- The texts of a list of fields are the call's own. -/
def OwnT (w : World) (base : Nat) (hs : List Held) : Prop := ∀ h ∈ hs, w.ownsRow base 5 1 (.slice h.2.1 h.1.bytes.length h.2.2) h.1.bytes.length (u8s h.1.bytes)
/-- A reader that holds the fields hs. -/
structure RdX (w : World) (base g b : Nat) (hs : List Held) (bad : Nat) (D : DataW Value) : Prop where
  blk : RdB w g b bad
  own : OwnM w b D
  map : MapL D hs
  wf : ∀ h ∈ hs, IsI h.1.tag
  txt : OwnT w base hs
  ne : g ≠ b
  lo : base ≤ g ∧ base ≤ b
theorem rise_of : ∀ (fs : List Fld) (last : Int), faults last fs = 0 → (∀ f ∈ fs, last < f.tag) ∧ (fs.map (·.tag)).Pairwise (· < ·)
  | [], _, _ => ⟨fun _ h => (by cases h), List.Pairwise.nil⟩
  | f :: r, last, h => by
    have hf : fault f last = 0 := by
      by_cases h0 : fault f last = 0
      · exact h0
      · unfold faults at h; rw [if_pos h0] at h; exact h
    have hr : faults f.tag r = 0 := by unfold faults at h; rw [if_neg (by simp [hf])] at h; exact h
    obtain ⟨h1, h2⟩ := rise_of r f.tag hr
    have h3 := (fault_ok hf).2.2.1
    refine ⟨fun x hx => ?_, ?_⟩
    · rcases List.mem_cons.1 hx with rfl | hx
      · exact h3
      · have := h1 x hx; omega
    · rw [List.map_cons]
      exact List.Pairwise.cons (fun y hy => by obtain ⟨x, hx, rfl⟩ := List.mem_map.1 hy; exact h1 x hx) h2
def NewPost (w : World) (l : List UInt8) (e : Ending) (w' : World) : Prop :=
  Ext w w' ∧ (((dec l).2.2 ≠ 0 ∧ e = .returned (.tuple #[.pointer none, .int .i64 ((dec l).2.2 : Nat)])) ∨
    ((dec l).2.2 = 0 ∧ ∃ g b hs D, e = .returned (.tuple #[.pointer (some ⟨g, 0, none⟩), .int .i64 0]) ∧ hs.map (·.1) = (dec l).1 ∧ RdX w' w.heap.size g b hs 0 D))
def NrR (w w2 : World) (base g b : Nat) (hs : List Held) (d : Value) (wr : World) : Prop :=
  ∃ (k : Nat) (D : DataW Value), d = .int .i64 (k : Nat) ∧ k ≤ hs.length ∧ Turn [b] w2 wr ∧ RdB wr g b 0 ∧ OwnM wr b D ∧ MapL D (hs.take k)
set_option maxRecDepth 100000 in
set_option maxHeartbeats 8000000 in
theorem newReader_any (A : Option Addr) (n c : Nat) (l : List UInt8) (w : World) (hr : Rd w A n (u8s l)) (hnc : n ≤ c) (hn : n ≤ maxLen) :
    Calls Tryz.prog 132 #[.slice A n c] w (NewPost w l) := by
  have KD := Lib.hid (tdec_any A n c l w hr hnc hn)
  unfold DecPost at KD
  unfold NewPost
  by_cases he : (dec l).2.2 = 0
  · obtain ⟨_, _, hfw, _, _, _, hft, _⟩ := dec_inv he
    have hbd := faults_bound _ hfw hft
    have hri := (rise_of _ 0 hft).2
    rw [he] at KD
    have He := Lib.hid he
    clear hr hnc hn he hft
    generalize (dec l).2.2 = E at *
    generalize (dec l).1 = fs at *
    generalize (dec l).2.1 = at_ at *
    have hn31 : fs.length ≤ 31 := by omega
    have Hfw := Lib.hid hfw
    have Hri := Lib.hid hri
    clear hbd hfw hri
    have kmm : ∀ w : World, (Instr.makeMap 261 none).run Tryz.prog w = .ok (.map (some w.heap.size)) (w.alloc (.map #[] 0)) := fun _ => by kernel_rfl
    go_enter Tryz.func132, Tryz.ntmps132
    go_wp2_with (go_at_call 170; (with_reducible refine KD.out.mono ?_); rintro e w1 ⟨A1, c1, hs, rfl, hx1, hown, hm⟩; have HO := Lib.hid hown; have HM := Lib.hid hm; clear hown hm)
    have hl : hs.length = fs.length := by rw [← HM.out]; simp
    rw [← hl]
    rw [← hl] at HO hn31
    have hB0 : RdB ((w1.alloc (.map #[] 0)).alloc (.cells #[.map (some w1.heap.size), .int .i64 0] 263)) (w1.heap.size + 1) w1.heap.size 0 := BlkN (by simp)
    have hM0 : OwnM ((w1.alloc (.map #[] 0)).alloc (.cells #[.map (some w1.heap.size), .int .i64 0] 263)) w1.heap.size (.map []) := ⟨0, by omega, World.ownsMap.alloc (World.ownsMap_made w1 _ _ _) _⟩
    have hX2 : Ext w1 ((w1.alloc (.map #[] 0)).alloc (.cells #[.map (some w1.heap.size), .int .i64 0] 263)) := ExtA (ExtA (Ext.rfl' w1))
    have HL := Lib.hid hl
    clear hl
    go_loopw [24] (fun d wr => NrR w ((w1.alloc (.map #[] 0)).alloc (.cells #[.map (some w1.heap.size), .int .i64 0] 263)) w.heap.size (w1.heap.size + 1) w1.heap.size hs d wr) (fun d _ => hs.length - (intOf d).toNat)
    case atStart => exact ⟨0, _, rfl, by omega, Turn.refl _ _, hB0, hM0, by simpa using map_nil⟩
    case round =>
      obtain ⟨k, D, rfl, hk, ht, hB, hM, hD⟩ := hrel
      clear hB0 hM0
      have hT1 : Turn [w1.heap.size] w1 wr := (hX2.turn _).tr ht
      have hF : OwnFs wr w.heap.size A1 hs.length c1 hs := HO.out.turnNew HO.out hT1 (fun r hr => by rw [List.mem_singleton.1 hr]; omega)
      by_cases hlt : k < hs.length
      · obtain ⟨br, rfl, hbr, hcl⟩ := own_row_at hF.1 (by omega)
        obtain ⟨⟨⟨tag, tx, nm, bs⟩, Af, cf⟩, hg⟩ : ∃ h, hs[k]? = some h := ⟨_, List.getElem?_eq_getElem hlt⟩
        have e0 : wr.cell? ⟨br, k * 4, none⟩ = some (.int .i64 tag) := (hcl (k * 4 + 0) _ (by rw [fsCells_at hs k 0 _ hg (by omega)]; rfl)).1
        have e1 : wr.cell? ⟨br, k * 4 + 1, none⟩ = some (.bool tx) := (hcl (k * 4 + 1) _ (by rw [fsCells_at hs k 1 _ hg (by omega)]; rfl)).1
        have e2 : wr.cell? ⟨br, k * 4 + 2, none⟩ = some (.int .u64 (nm : Nat)) := (hcl (k * 4 + 2) _ (by rw [fsCells_at hs k 2 _ hg (by omega)]; rfl)).1
        have e3 : wr.cell? ⟨br, k * 4 + 3, none⟩ = some (.slice Af bs.length cf) := (hcl (k * 4 + 3) _ (by rw [fsCells_at hs k 3 _ hg (by omega)]; rfl)).1
        have htg : IsI tag := by
          have := Hfw.out ⟨tag, tx, nm, bs⟩ (by rw [← HM.out]; exact List.mem_map.2 ⟨_, List.mem_of_getElem? hg, rfl⟩)
          exact ⟨this.1, this.2.1⟩
        have hnew : ∀ x ∈ hs.take k, x.1.tag ≠ tag := fun x hx hc => by
          obtain ⟨i, hi, hxi⟩ := List.mem_take_iff_getElem.1 hx
          have hp := Hri.out
          rw [← HM.out, List.map_map] at hp
          have h9 := List.pairwise_iff_getElem.1 hp i k (by simp; omega) (by simp; omega) (by omega)
          have h8 : hs[k] = ((⟨tag, tx, nm, bs⟩ : Fld), Af, cf) := by rw [List.getElem?_eq_getElem hlt] at hg; injection hg
          simp only [List.getElem_map, Function.comp] at h9
          rw [hxi, h8, hc] at h9
          exact absurd h9 (by simp)
        have q1 : ∀ ob, (wr.alloc ob).cell? ⟨w1.heap.size + 1, 0, none⟩ = some (.map (some w1.heap.size)) := fun ob => (BlkA (o := ob) hB).cell 0
        have hgz := hB.lt
        have Hms := Lib.hid fun (W : World) (ho : OwnM W w1.heap.size D) => map_store ho hD (by rw [List.length_take]; omega) (⟨tag, tx, nm, bs⟩, Af, cf) htg
        have HD := Lib.hid hD
        have Hnew := Lib.hid hnew
        have Hg := Lib.hid hg
        clear hcl hD hnew hg hF
        go_wp2_with fail
        have hxa : Ext wr (wr.alloc (.cells #[.int .i64 tag, .bool tx, .int .u64 (nm : Nat), .slice Af bs.length cf] 210)) := (by repeat (first | with_reducible exact Below.refl _ _ | with_reducible assumption | with_reducible refine ExtD ?_ | with_reducible refine ExtDN ?_ | with_reducible refine ExtA ?_ | (with_reducible refine ExtR ?_ ?_; (first | omega | (dsimp only; omega) | (simp; done) | (simp; omega))) | (with_reducible refine ExtS ?_ ?_; (first | omega | (dsimp only; omega) | (simp; done) | (simp; omega))) | with_reducible refine Ext.tr ?_ (by with_reducible assumption)))
        have hMa : OwnM (wr.alloc (.cells #[.int .i64 tag, .bool tx, .int .u64 (nm : Nat), .slice Af bs.length cf] 210)) w1.heap.size D := by
          obtain ⟨q, hq, ho⟩ := hM
          exact ⟨q, hq, ho.alloc _⟩
        have bA : Blk (wr.alloc (.cells #[.int .i64 tag, .bool tx, .int .u64 (nm : Nat), .slice Af bs.length cf] 210)) wr.heap.size 210 #[.int .i64 tag, .bool tx, .int .u64 (nm : Nat), .slice Af bs.length cf] := BlkN rfl
        have bG := BlkE hB hxa
        clear e0 e1 e2 e3 q1
        generalize (wr.alloc (.cells #[.int .i64 tag, .bool tx, .int .u64 (nm : Nat), .slice Af bs.length cf] 210)) = wa at *
        have g0 : wa.cell? ⟨w1.heap.size + 1, 0, none⟩ = some (.map (some w1.heap.size)) := bG.cell 0
        have e0 := bA.cell 0
        have e1 := bA.cell 1
        have e2 := bA.cell 2
        have e3 := bA.cell 3
        go_still_tail 7, (by kernel_rfl)
        change wpList _ _ _ _ _ wa.drew
        have hM3 : OwnM wa.drew w1.heap.size D := hMa
        have hxa := ExtD hxa
        clear e0 e1 e2 e3 g0 bA bG hMa
        generalize wa.drew = w3 at *
        obtain ⟨w4, hrun, hM4, hg4⟩ := Hms.out _ hM3
        unfold fldV fcells at hrun
        dsimp only at hrun
        have ht4 : Turn [w1.heap.size] wr w4 := (hxa.turn _).tr (grown_turn hg4 (fun r hr => by injection hr with hr; subst hr; exact .inl (by simp)))
        have HM4 := Lib.hid hM4
        clear hM4
        go_wp2_with fail
        refine And.intro ⟨k + 1, _, by go_num, by omega, ht.tr ht4, ht4.blk hB (by rw [List.mem_singleton]; omega), HM4.out, ?_⟩ ?_
        · have h8 := map_put HD.out (⟨tag, tx, nm, bs⟩, Af, cf) Hnew.out
          rw [List.take_add_one, Hg.out]
          exact h8
        · simp [intOf]; omega
      · obtain rfl : k = hs.length := by omega
        rw [List.take_length] at hD
        have HD := Lib.hid hD
        have HM2 := Lib.hid hM
        have HF := Lib.hid hF
        have HT := Lib.hid hT1
        clear hD hM hF hT1
        go_wp2_with fail
        go_ret2
        refine ⟨HT.out.ext hx1 (fun r hr => by rw [List.mem_singleton.1 hr]; exact hx1.size), .inr ⟨He.out, w1.heap.size + 1, w1.heap.size, hs, D, rfl, HM.out, ⟨hB, HM2.out, HD.out, fun h hh => ?_, HF.out.2, by omega, ⟨by have := hx1.size; omega, hx1.size⟩⟩⟩⟩
        have := Hfw.out h.1 (by rw [← HM.out]; exact List.mem_map.2 ⟨h, hh, rfl⟩)
        exact ⟨this.1, this.2.1⟩
  · have t0 : (((dec l).2.2 : Nat) : Int) ≠ 0 := by omega
    have t1 : ((((dec l).2.2 : Nat) : Int) != 0) = true := by simp; exact he
    have He := Lib.hid he
    clear hr hnc hn he t0
    generalize (dec l).2.2 = E at *
    generalize (dec l).1 = fs at *
    generalize (dec l).2.1 = at_ at *
    go_enter Tryz.func132, Tryz.ntmps132
    go_wp2_with (go_at_call 170; (with_reducible refine KD.out.mono ?_); rintro e w1 ⟨A1, c1, hs, rfl, hx1, hown, hm⟩)
    go_ret2
    exact ⟨hx1, .inl ⟨He.out, rfl⟩⟩
theorem Turn.row {F : List Nat} {a : World} {g : Nat} {cs : Array Value} (hg : g ∈ F) : Turn F a (a.setRow g cs) :=
  ⟨rfl, rfl, rfl, by simp [World.setRow], fun k _ hn => by
    simp only [World.setRow, Array.getElem?_modify]
    rw [if_neg (fun e => hn (by rw [← e]; exact hg))]⟩
theorem OwnM.turn {F : List Nat} {w w' : World} {b : Nat} {D : DataW Value} (ho : OwnM w b D) (ht : Turn F w w') (hn : b ∉ F) : OwnM w' b D := by
  obtain ⟨q, hq, ho⟩ := ho
  exact ⟨q, hq, ht.map ho hn⟩
theorem own_notmap {w : World} {b : Nat} {D : DataW Value} {base s n : Nat} {e : TypeId} {v : Value} {xs : List Value} (ho : OwnM w b D) (h : w.ownsRow base e s v n xs) : v.ownBlock ≠ some b := fun hc => by
  obtain ⟨q, _, es, clock, hb, _⟩ := ho
  rcases h.2 with ⟨hv, _⟩ | ⟨g2, cap, cur, hv, _, hg2, _⟩
  · rw [hv] at hc; cases hc
  · rw [hv] at hc
    simp only [Value.ownBlock, Option.some.injEq] at hc
    subst hc
    rw [hb] at hg2
    cases hg2
theorem RdX.turn {w w' : World} {base g b : Nat} {hs hs' : List Held} {bad bad' : Nat} {D D' : DataW Value} (h : RdX w base g b hs bad D) (ht : Turn [g, b] w w') (hb : RdB w' g b bad') (ho : OwnM w' b D') (hm : MapL D' hs') (hsub : ∀ x ∈ hs', x ∈ hs) : RdX w' base g b hs' bad' D' where
  blk := hb
  own := ho
  map := hm
  wf := fun x hx => h.wf x (hsub x hx)
  txt := fun x hx => ht.own (h.txt x (hsub x hx)) fun r hr hc => by
    rcases List.mem_cons.1 hc with rfl | hc
    · exact blk_off (h.txt x (hsub x hx)) h.blk (by decide) hr
    · rw [List.mem_singleton.1 hc] at hr
      exact own_notmap h.own (h.txt x (hsub x hx)) hr
  ne := h.ne
  lo := h.lo
theorem OwnM.ext {w w' : World} {b : Nat} {D : DataW Value} (ho : OwnM w b D) (hx : Ext w w') : OwnM w' b D := by
  obtain ⟨q, hq, ho⟩ := ho
  exact ⟨q, hq, (hx.turn []).map ho (by simp)⟩
theorem RdX.ext {w w' : World} {base g b : Nat} {hs : List Held} {bad : Nat} {D : DataW Value} (h : RdX w base g b hs bad D) (hx : Ext w w') : RdX w' base g b hs bad D :=
  h.turn (hx.turn _) (BlkE h.blk hx) (h.own.ext hx) h.map fun _ hx => hx
def findH (hs : List Held) (t : Int) : Option Held := hs.find? fun h => decide (h.1.tag = t)
def takeH (hs : List Held) (t : Int) (tx : Bool) : Held := match findH hs t with
  | some h => if h.1.text = tx then h else (noFld, none, 0)
  | none => (noFld, none, 0)
def takeB (hs : List Held) (t : Int) (tx : Bool) (bad : Nat) : Nat := match findH hs t with
  | some h => if h.1.text = tx then bad else 33
  | none => bad
theorem strike_none {hs : List Held} {t : Int} (h : findH hs t = none) : strike t hs = hs ∧ ∀ x ∈ hs, x.1.tag ≠ t := by
  have h1 : ∀ x ∈ hs, x.1.tag ≠ t := fun x hx => by have := List.find?_eq_none.1 h x hx; simpa using this
  exact ⟨List.filter_eq_self.2 fun x hx => by simpa using h1 x hx, h1⟩
theorem find_some {hs : List Held} {t : Int} {h : Held} (hf : findH hs t = some h) : h ∈ hs ∧ h.1.tag = t := ⟨List.mem_of_find?_eq_some hf, by have := List.find?_some hf; simpa using this⟩
def TakePost (w : World) (base g b : Nat) (hs : List Held) (t : Int) (tx : Bool) (bad : Nat) (e : Ending) (w' : World) : Prop :=
  e = .returned (fldV (takeH hs t tx)) ∧ Turn [g, b] w w' ∧ ∃ D', RdX w' base g b (strike t hs) (takeB hs t tx bad) D'
set_option maxRecDepth 100000 in
set_option maxHeartbeats 8000000 in
theorem take_any (w : World) (base g b : Nat) (hs : List Held) (bad : Nat) (D : DataW Value) (t : Int) (tx : Bool) (h : RdX w base g b hs bad D) (ht : IsI t) :
    Calls Tryz.prog 171 #[.pointer (some ⟨g, 0, none⟩), .int .i64 t, .bool tx] w (TakePost w base g b hs t tx bad) := by
  unfold TakePost
  have hgl := h.blk.lt
  have hbl : b < w.heap.size := by obtain ⟨q, _, ho⟩ := h.own; exact ho.lt
  have hne := h.ne
  have hne' := h.ne.symm
  have b1 : RdB (w.alloc (.cells #[.int .i64 0, .bool false, .int .u64 0, .slice none 0 0] 210)) g b bad := BlkA h.blk
  have q0 : (w.alloc (.cells #[.int .i64 0, .bool false, .int .u64 0, .slice none 0 0] 210)).cell? ⟨g, 0, none⟩ = some (.map (some b)) := b1.cell 0
  have o1 : OwnM (w.alloc (.cells #[.int .i64 0, .bool false, .int .u64 0, .slice none 0 0] 210)) b D := h.own.ext (by repeat (first | with_reducible exact Below.refl _ _ | with_reducible assumption | with_reducible refine ExtD ?_ | with_reducible refine ExtDN ?_ | with_reducible refine ExtA ?_ | (with_reducible refine ExtR ?_ ?_; (first | omega | (dsimp only; omega) | (simp; done) | (simp; omega))) | (with_reducible refine ExtS ?_ ?_; (first | omega | (dsimp only; omega) | (simp; done) | (simp; omega))) | with_reducible refine Ext.tr ?_ (by with_reducible assumption)))
  have z1 : ∀ v ∈ (#[.int .i64 0, .bool false, .int .u64 0, .slice none 0 0] : Array Value).toList, v.oneCell' = true := fcells_one noFld none 0
  cases hf : findH hs t with
  | none =>
    obtain ⟨hst, hms⟩ := strike_none hf
    have hrun : (Instr.lookup 261 (.map (some b)) (.int .i64 t) true).run Tryz.prog (w.alloc (.cells #[.int .i64 0, .bool false, .int .u64 0, .slice none 0 0] 210)) = .ok (.tuple #[.agg #[.int .i64 0, .bool false, .int .u64 0, .slice none 0 0], .bool false]) (w.alloc (.cells #[.int .i64 0, .bool false, .int .u64 0, .slice none 0 0] 210)) := look_miss o1 h.map hms ht
    have e1 : takeH hs t tx = (noFld, none, 0) := by unfold takeH; rw [hf]
    have e2 : takeB hs t tx bad = bad := by unfold takeB; rw [hf]
    rw [hst, e1, e2]
    have H := Lib.hid h
    have b7 : Blk ((w.alloc (.cells #[.int .i64 0, .bool false, .int .u64 0, .slice none 0 0] 210)).alloc (.cells #[.int .i64 0, .bool false, .int .u64 0, .slice none 0 0] 210)) w.heap.size 210 #[.int .i64 0, .bool false, .int .u64 0, .slice none 0 0] := BlkA (BlkN rfl)
    clear h o1 b1 hms hf hst e1 e2
    go_enter Tryz.func171, Tryz.ntmps171
    go_wp2_with (change wpList _ _ _ (⟨none, .store _ (.tmp 6) (.tmp 23), _, _, _, _⟩ :: _) _ _; refine wpL_store_row rfl 210 (.tmp 6) (.tmp 23) rfl w.heap.size 210 _ _ rfl rfl b7 rfl (z1) 4 fld_wide rfl ?_)
    refine bodyPost_ret (v := .agg #[.int .i64 0, .bool false, .int .u64 0, .slice none 0 0]) (res_row rfl _ _ _ 210 _ 4 rfl (Blk.setRow_ b7) fld_wide rfl) rfl ⟨rfl, ?_, D, H.out.ext (by repeat (first | with_reducible exact Below.refl _ _ | with_reducible assumption | with_reducible refine ExtD ?_ | with_reducible refine ExtDN ?_ | with_reducible refine ExtA ?_ | (with_reducible refine ExtR ?_ ?_; (first | omega | (dsimp only; omega) | (simp; done) | (simp; omega))) | (with_reducible refine ExtS ?_ ?_; (first | omega | (dsimp only; omega) | (simp; done) | (simp; omega))) | with_reducible refine Ext.tr ?_ (by with_reducible assumption)))⟩
    exact Ext.turn (by repeat (first | with_reducible exact Below.refl _ _ | with_reducible assumption | with_reducible refine ExtD ?_ | with_reducible refine ExtDN ?_ | with_reducible refine ExtA ?_ | (with_reducible refine ExtR ?_ ?_; (first | omega | (dsimp only; omega) | (simp; done) | (simp; omega))) | (with_reducible refine ExtS ?_ ?_; (first | omega | (dsimp only; omega) | (simp; done) | (simp; omega))) | with_reducible refine Ext.tr ?_ (by with_reducible assumption))) _
  | some x =>
    obtain ⟨hx, hxt⟩ := find_some hf
    have hrun := look_hit o1 h.map hx (h.wf x hx)
    rw [hxt] at hrun
    have hxt2 := h.txt x hx
    have h5 := map_del h.map t
    obtain ⟨⟨tag, xt, nm, bs⟩, Af, cf⟩ := x
    dsimp only at hxt
    subst hxt
    unfold fldV fcells at hrun
    dsimp only at hrun
    have b3 : RdB ((w.alloc (.cells #[.int .i64 0, .bool false, .int .u64 0, .slice none 0 0] 210)).alloc (.cells #[.int .i64 tag, .bool xt, .int .u64 (nm : Nat), .slice Af bs.length cf] 210)) g b bad := BlkA b1
    have o3 : OwnM ((w.alloc (.cells #[.int .i64 0, .bool false, .int .u64 0, .slice none 0 0] 210)).alloc (.cells #[.int .i64 tag, .bool xt, .int .u64 (nm : Nat), .slice Af bs.length cf] 210)) b D := o1.ext (by repeat (first | with_reducible exact Below.refl _ _ | with_reducible assumption | with_reducible refine ExtD ?_ | with_reducible refine ExtDN ?_ | with_reducible refine ExtA ?_ | (with_reducible refine ExtR ?_ ?_; (first | omega | (dsimp only; omega) | (simp; done) | (simp; omega))) | (with_reducible refine ExtS ?_ ?_; (first | omega | (dsimp only; omega) | (simp; done) | (simp; omega))) | with_reducible refine Ext.tr ?_ (by with_reducible assumption)))
    obtain ⟨w4, hdel, hM4, hg4⟩ := map_drop o3 ht 0
    have ht4 : Turn [b] ((w.alloc (.cells #[.int .i64 0, .bool false, .int .u64 0, .slice none 0 0] 210)).alloc (.cells #[.int .i64 tag, .bool xt, .int .u64 (nm : Nat), .slice Af bs.length cf] 210)) w4 := grown_turn hg4 (fun r hr => by injection hr with hr; subst hr; exact .inl (by simp))
    have c6 : Blk w4 w.heap.size 210 #[.int .i64 0, .bool false, .int .u64 0, .slice none 0 0] := ht4.blk (BlkA (BlkN rfl)) (by rw [List.mem_singleton]; omega)
    have c7 : Blk w4 (w.heap.size + 1) 210 #[.int .i64 tag, .bool xt, .int .u64 (nm : Nat), .slice Af bs.length cf] := ht4.blk (BlkN (by simp)) (by rw [List.mem_singleton]; omega)
    have c8 : RdB w4 g b bad := ht4.blk b3 (by rw [List.mem_singleton]; exact hne)
    have hx4 : Turn [g, b] w w4 := ((show Ext w ((w.alloc (.cells #[.int .i64 0, .bool false, .int .u64 0, .slice none 0 0] 210)).alloc (.cells #[.int .i64 tag, .bool xt, .int .u64 (nm : Nat), .slice Af bs.length cf] 210)) from (by repeat (first | with_reducible exact Below.refl _ _ | with_reducible assumption | with_reducible refine ExtD ?_ | with_reducible refine ExtDN ?_ | with_reducible refine ExtA ?_ | (with_reducible refine ExtR ?_ ?_; (first | omega | (dsimp only; omega) | (simp; done) | (simp; omega))) | (with_reducible refine ExtS ?_ ?_; (first | omega | (dsimp only; omega) | (simp; done) | (simp; omega))) | with_reducible refine Ext.tr ?_ (by with_reducible assumption)))).turn _).tr (ht4.mono fun r hr => .inl (by simp at hr; simp [hr]))
    have r0 := c7.cell 0
    have r1 := c7.cell 1
    have r2 := c7.cell 2
    have r3 := c7.cell 3
    have q3 : ((w.alloc (.cells #[.int .i64 0, .bool false, .int .u64 0, .slice none 0 0] 210)).alloc (.cells #[.int .i64 tag, .bool xt, .int .u64 (nm : Nat), .slice Af bs.length cf] 210)).cell? ⟨g, 0, none⟩ = some (.map (some b)) := b3.cell 0
    have s1 := c8.cell 1
    have s2 := c8.frozen 1
    have H := Lib.hid h
    have HM := Lib.hid hM4
    have H5 := Lib.hid h5
    have hsub : ∀ y ∈ strike tag hs, y ∈ hs := fun y hy => (List.mem_filter.1 hy).1
    have zx := fcells_one ⟨tag, xt, nm, bs⟩ Af cf
    by_cases hk : xt = tx
    · subst hk
      have e1 : takeH hs tag xt = (⟨tag, xt, nm, bs⟩, Af, cf) := by unfold takeH; rw [hf]; exact if_pos rfl
      have e2 : takeB hs tag xt bad = bad := by unfold takeB; rw [hf]; exact if_pos rfl
      rw [e1, e2]
      clear h o1 b1 hf e1 e2 hM4 h5 o3 b3 hxt2 hx
      go_enter Tryz.func171, Tryz.ntmps171
      go_wp2_with (change wpList _ _ _ (⟨none, .store _ (.tmp 6) (.tmp 37), _, _, _, _⟩ :: _) _ _; refine wpL_store_row rfl 210 (.tmp 6) (.tmp 37) rfl w.heap.size 210 _ _ rfl rfl c6 rfl (zx) 4 fld_wide rfl ?_)
      refine bodyPost_ret (v := .agg #[.int .i64 tag, .bool xt, .int .u64 (nm : Nat), .slice Af bs.length cf]) (res_row rfl _ _ _ 210 _ 4 rfl (Blk.setRow_ c6) fld_wide rfl) rfl ⟨rfl, ?_, _, H.out.turn ?_ ?_ ?_ H5.out hsub⟩
      · exact hx4.trans (Turn.row (F := [w.heap.size]) (by simp)) (fun r hr => by rw [List.mem_singleton.1 hr]; exact .inr (Nat.le_refl _))
      · exact hx4.trans (Turn.row (F := [w.heap.size]) (by simp)) (fun r hr => by rw [List.mem_singleton.1 hr]; exact .inr (Nat.le_refl _))
      · exact BlkR (by omega) c8
      · exact HM.out.turn (Turn.row (F := [w.heap.size]) (by simp)) (by rw [List.mem_singleton]; omega)
    · have e1 : takeH hs tag tx = (noFld, none, 0) := by unfold takeH; rw [hf]; exact if_neg hk
      have e2 : takeB hs tag tx bad = 33 := by unfold takeB; rw [hf]; exact if_neg hk
      rw [e1, e2]
      have Hk := Lib.hid hk
      have c6' : Blk (w4.setCell ⟨g, 1, none⟩ (.int .i64 33)) w.heap.size 210 #[.int .i64 0, .bool false, .int .u64 0, .slice none 0 0] := BlkF (by dsimp only; omega) c6
      clear h o1 b1 hf e1 e2 hM4 h5 o3 b3 hxt2 hx hk
      cases xt <;> cases tx
      all_goals first | exact absurd rfl Hk.out | skip
      all_goals
        go_enter Tryz.func171, Tryz.ntmps171
        go_wp2_with (change wpList _ _ _ (⟨none, .store _ (.tmp 6) (.tmp 36), _, _, _, _⟩ :: _) _ _; refine wpL_store_row rfl 210 (.tmp 6) (.tmp 36) rfl w.heap.size 210 _ _ rfl rfl c6' rfl (z1) 4 fld_wide rfl ?_)
        refine bodyPost_ret (v := .agg #[.int .i64 0, .bool false, .int .u64 0, .slice none 0 0]) (res_row rfl _ _ _ 210 _ 4 rfl (Blk.setRow_ c6') fld_wide rfl) rfl ⟨rfl, ?_, _, H.out.turn ?_ ?_ ?_ H5.out hsub⟩
        · exact (hx4.tr (Turn.cell (by simp))).trans (Turn.row (F := [w.heap.size]) (by simp)) (fun r hr => by rw [List.mem_singleton.1 hr]; exact .inr (Nat.le_refl _))
        · exact (hx4.tr (Turn.cell (by simp))).trans (Turn.row (F := [w.heap.size]) (by simp)) (fun r hr => by rw [List.mem_singleton.1 hr]; exact .inr (Nat.le_refl _))
        · exact BlkR (by omega) (Blk_eq (BlkS c8) rfl)
        · exact (HM.out.turn (Turn.cell (F := [g]) (p := ⟨g, 1, none⟩) (by simp)) (by rw [List.mem_singleton]; omega)).turn (Turn.row (F := [w.heap.size]) (by simp)) (by rw [List.mem_singleton]; omega)
end Go.Proofs.YtjajbbgebblalaaGreatDoor

namespace Go.Proofs.YtjajbbgebblalaaGreatDoor
open Go.RowKit
set_option linter.unusedVariables false
set_option linter.unusedSimpArgs false
open Go.Maps
def zag (u : Nat) : Int := if u % 2 = 0 then (u / 2 : Nat) else -((u / 2 : Nat) : Int) - 1
set_option maxRecDepth 100000 in
set_option maxHeartbeats 4000000 in
theorem rnum_any (w : World) (base g b : Nat) (hs : List Held) (bad : Nat) (D : DataW Value) (t : Int) (h : RdX w base g b hs bad D) (ht : IsI t) :
    Calls Tryz.prog 135 #[.pointer (some ⟨g, 0, none⟩), .int .i64 t] w fun e w' => e = .returned (.int .u64 ((takeH hs t false).1.num : Nat)) ∧ Turn [g, b] w w' ∧ ∃ D', RdX w' base g b (strike t hs) (takeB hs t false bad) D' := by
  have K := Lib.hid (take_any w base g b hs bad D t false h ht)
  unfold TakePost at K
  generalize takeH hs t false = x at *
  obtain ⟨⟨tag, xt, nm, bs⟩, Af, cf⟩ := x
  unfold fldV fcells at K
  dsimp only at *
  clear h ht
  have kf2 : ∀ (a b c d : Value) (w : World), (Instr.field 210 (.agg #[a, b, c, d]) 2).run Tryz.prog w = .ok c w := fun _ _ _ _ _ => by kernel_rfl
  have kf3 : ∀ (a b c d : Value) (w : World), (Instr.field 210 (.agg #[a, b, c, d]) 3).run Tryz.prog w = .ok d w := fun _ _ _ _ _ => by kernel_rfl
  go_enter Tryz.func135, Tryz.ntmps135
  go_wp2_with (go_at_call 171; (with_reducible refine K.out.mono ?_); rintro e w1 ⟨rfl, hx⟩; have HX := Lib.hid hx; clear hx)
  go_ret
  exact ⟨rfl, HX.out⟩
set_option maxRecDepth 100000 in
set_option maxHeartbeats 4000000 in
theorem rtext_any (w : World) (base g b : Nat) (hs : List Held) (bad : Nat) (D : DataW Value) (t : Int) (h : RdX w base g b hs bad D) (ht : IsI t) :
    Calls Tryz.prog 136 #[.pointer (some ⟨g, 0, none⟩), .int .i64 t] w fun e w' => e = .returned (.slice (takeH hs t true).2.1 (takeH hs t true).1.bytes.length (takeH hs t true).2.2) ∧ Turn [g, b] w w' ∧ ∃ D', RdX w' base g b (strike t hs) (takeB hs t true bad) D' := by
  have K := Lib.hid (take_any w base g b hs bad D t true h ht)
  unfold TakePost at K
  generalize takeH hs t true = x at *
  obtain ⟨⟨tag, xt, nm, bs⟩, Af, cf⟩ := x
  unfold fldV fcells at K
  dsimp only at *
  clear h ht
  have kf2 : ∀ (a b c d : Value) (w : World), (Instr.field 210 (.agg #[a, b, c, d]) 2).run Tryz.prog w = .ok c w := fun _ _ _ _ _ => by kernel_rfl
  have kf3 : ∀ (a b c d : Value) (w : World), (Instr.field 210 (.agg #[a, b, c, d]) 3).run Tryz.prog w = .ok d w := fun _ _ _ _ _ => by kernel_rfl
  go_enter Tryz.func136, Tryz.ntmps136
  go_wp2_with (go_at_call 171; (with_reducible refine K.out.mono ?_); rintro e w1 ⟨rfl, hx⟩; have HX := Lib.hid hx; clear hx)
  go_ret
  exact ⟨rfl, HX.out⟩
theorem xor_zero64 (a : Nat) (ha : a ≤ 9223372036854775807) : bits .xor .i64 (a : Int) 0 = (a : Int) := by
  show IntKind.i64.wrap ((BitVec.ofInt 64 (a : Int) ^^^ BitVec.ofInt 64 0).toNat : Int) = _
  have h1 : BitVec.ofInt 64 0 = 0#64 := by decide
  rw [h1, BitVec.xor_zero, ofInt_u64 a (by omega)]
  simp [IntKind.wrap, IntKind.bits, IntKind.signed]
  omega
theorem xor_ones64 (a : Nat) (ha : a ≤ 9223372036854775807) : bits .xor .i64 (a : Int) (-1) = -1 - (a : Int) := by
  rw [← i64_not a (by omega)]
  show IntKind.i64.wrap ((BitVec.ofInt 64 (a : Int) ^^^ BitVec.ofInt 64 (-1)).toNat : Int) = IntKind.i64.wrap ((BitVec.ofInt 64 (-1) ^^^ BitVec.ofInt 64 (a : Int)).toNat : Int)
  rw [BitVec.xor_comm]
def errR (hs : List Held) (bad : Nat) : Nat := if bad ≠ 0 then bad else if 0 < hs.length then 20 else 0
set_option maxRecDepth 100000 in
set_option maxHeartbeats 4000000 in
theorem rerr_any (w : World) (base g b : Nat) (hs : List Held) (bad : Nat) (D : DataW Value) (h : RdX w base g b hs bad D) :
    Calls Tryz.prog 138 #[.pointer (some ⟨g, 0, none⟩)] w fun e w' => e = .returned (.int .i64 (errR hs bad : Nat)) ∧ Ext w w' := by
  have q0 := h.blk.cell 0
  have q1 := h.blk.cell 1
  have hl := map_len h.own h.map
  unfold errR
  by_cases hb : bad = 0
  · subst hb
    rw [if_neg (by simp)]
    by_cases h0 : 0 < hs.length
    · rw [if_pos h0]
      go_enter Tryz.func138, Tryz.ntmps138
      go_wp2_with fail
      go_ret
      exact ⟨rfl, (by repeat (first | with_reducible exact Below.refl _ _ | with_reducible assumption | with_reducible refine ExtD ?_ | with_reducible refine ExtDN ?_ | with_reducible refine ExtA ?_ | (with_reducible refine ExtR ?_ ?_; (first | omega | (dsimp only; omega) | (simp; done) | (simp; omega))) | (with_reducible refine ExtS ?_ ?_; (first | omega | (dsimp only; omega) | (simp; done) | (simp; omega))) | with_reducible refine Ext.tr ?_ (by with_reducible assumption)))⟩
    · rw [if_neg h0]
      have h1 : hs.length = 0 := by omega
      rw [h1] at hl
      clear h0 h1
      go_enter Tryz.func138, Tryz.ntmps138
      go_wp2_with fail
      go_ret
      exact ⟨rfl, (by repeat (first | with_reducible exact Below.refl _ _ | with_reducible assumption | with_reducible refine ExtD ?_ | with_reducible refine ExtDN ?_ | with_reducible refine ExtA ?_ | (with_reducible refine ExtR ?_ ?_; (first | omega | (dsimp only; omega) | (simp; done) | (simp; omega))) | (with_reducible refine ExtS ?_ ?_; (first | omega | (dsimp only; omega) | (simp; done) | (simp; omega))) | with_reducible refine Ext.tr ?_ (by with_reducible assumption)))⟩
  · rw [if_pos hb]
    have t0 : ((bad : Int) != 0) = true := by simp; exact hb
    clear hb
    go_enter Tryz.func138, Tryz.ntmps138
    go_wp2_with fail
    go_ret
    exact ⟨rfl, (by repeat (first | with_reducible exact Below.refl _ _ | with_reducible assumption | with_reducible refine ExtD ?_ | with_reducible refine ExtDN ?_ | with_reducible refine ExtA ?_ | (with_reducible refine ExtR ?_ ?_; (first | omega | (dsimp only; omega) | (simp; done) | (simp; omega))) | (with_reducible refine ExtS ?_ ?_; (first | omega | (dsimp only; omega) | (simp; done) | (simp; omega))) | with_reducible refine Ext.tr ?_ (by with_reducible assumption)))⟩
end Go.Proofs.YtjajbbgebblalaaGreatDoor

namespace Go.Proofs.YtjajbbgebblalaaGreatDoor
open Go.RowKit
set_option linter.unusedVariables false
set_option linter.unusedSimpArgs false
theorem own_ncap {w : World} {base n c : Nat} {e : TypeId} {s : Nat} {A : Option Addr} {xs : List Value} (h : w.ownsRow base e s (.slice A n c) n xs) : n ≤ c := by
  rcases h.2 with ⟨hv, h0⟩ | ⟨g, cap, cur, hv, _, _, hnc, _⟩
  · omega
  · injection hv with h1 h2 h3
    omega
theorem str_of {w : World} {A : Option Addr} {n : Nat} {l : List UInt8} (c : Nat) (hr : Rd w A n (u8s l)) : (convert 36 9 (.slice A n c)).run Tryz.prog w = .ok (.string ⟨l.toArray⟩) w := by
  have hl : l.length = n := by have := hr.1; rw [u8s_len] at this; exact this
  rcases Nat.eq_zero_or_pos n with h0 | h0
  · subst h0
    have : l = [] := List.eq_nil_of_length_eq_zero hl
    subst this
    cases A with
    | none => exact run_convert_bytes_nil _ 36 5 Tryz.underlying36 Tryz.underlying5 0 c _ Tryz.underlying9
    | some a =>
      have := run_convert_bytes_back (P := Tryz.prog) w 36 9 5 a c [] Tryz.underlying36 Tryz.underlying5 Tryz.underlying9 (fun j hj => absurd hj (by simp))
      exact this
  · obtain ⟨b, o, rfl, hc⟩ := hr.2 h0
    have := run_convert_bytes_back (P := Tryz.prog) w 36 9 5 ⟨b, o, none⟩ c l Tryz.underlying36 Tryz.underlying5 Tryz.underlying9 (fun j hj => by
      rw [addr_add2]
      refine hc j _ ?_
      unfold u8s
      rw [List.getElem?_map, List.getElem?_eq_getElem hj]
      rfl)
    rw [hl] at this
    exact this
def wrongB (fs : List Fld) (K : Int) : Nat := if fs.any (fun f => decide (f.tag ≤ K) && wrongF f) = true then 33 else 0
/-- The reader at g (its map at b) of the fields fs, the tags up to K taken out. -/
def RS (W0 w : World) (g b : Nat) (fs : List Fld) (K : Int) : Prop :=
  ∃ (hs : List Held) (D : DataW Value), hs.map (·.1) = fs ∧ RdX w W0.heap.size g b (hs.filter fun h => decide (K < h.1.tag)) (wrongB fs K) D ∧ Ext W0 w
theorem RS.x {W0 w : World} {g b : Nat} {fs : List Fld} {K : Int} (h : RS W0 w g b fs K) : Ext W0 w := by obtain ⟨_, _, _, _, h⟩ := h; exact h
theorem RS.up {W0 w w' : World} {g b : Nat} {fs : List Fld} {K : Int} (h : RS W0 w g b fs K) (hx : Ext w w') : RS W0 w' g b fs K := by
  obtain ⟨hs, D, h1, h2, h3⟩ := h
  exact ⟨hs, D, h1, h2.ext hx, h3.tr hx⟩
theorem RS.mk0 {w w' : World} {g b : Nat} {hs : List Held} {D : DataW Value} {fs : List Fld} (hx : Ext w w') (hm : hs.map (·.1) = fs) (h : RdX w' w.heap.size g b hs 0 D) (ht : ∀ f ∈ fs, 0 < f.tag) : RS w w' g b fs 0 := by
  refine ⟨hs, D, hm, ?_, hx⟩
  have e1 : hs.filter (fun h => decide (0 < h.1.tag)) = hs := List.filter_eq_self.2 fun x hx => by
    have := ht x.1 (by rw [← hm]; exact List.mem_map.2 ⟨x, hx, rfl⟩)
    simpa using this
  have e2 : wrongB fs 0 = 0 := by
    unfold wrongB
    rw [if_neg]
    simp only [List.any_eq_true, and_t, decide_eq_true_eq, not_exists, not_and]
    intro f hf h0
    have := ht f hf
    omega
  rw [e1, e2]
  exact h
theorem find_h (hs : List Held) (t : Int) : (findH hs t).map (·.1) = findF (hs.map (·.1)) t := by
  unfold findH findF
  rw [List.find?_map]
  rfl
theorem find_filter_gt (hs : List Held) {K t : Int} (h : K < t) : findH (hs.filter fun h => decide (K < h.1.tag)) t = findH hs t := by
  unfold findH
  rw [List.find?_filter]
  congr 1
  funext x
  by_cases hx : x.1.tag = t
  · simp [hx, h]
  · simp [hx]
theorem strike_filter (hs : List Held) (K : Int) : strike (K + 1) (hs.filter fun h => decide (K < h.1.tag)) = hs.filter fun h => decide (K + 1 < h.1.tag) := by
  unfold strike
  rw [List.filter_filter]
  congr 1
  funext x
  rw [Bool.eq_iff_iff]
  simp
  omega
theorem wrong_step {fs : List Fld} {b : Int} (hr : rising b fs) (K : Int) : wrongB fs (K + 1) = match findF fs (K + 1) with
    | some f => if f.text = decide (11 ≤ K + 1) then wrongB fs K else 33
    | none => wrongB fs K := by
  have key : (fs.any (fun f => decide (f.tag ≤ K + 1) && wrongF f)) = ((fs.any (fun f => decide (f.tag ≤ K) && wrongF f)) || (match findF fs (K + 1) with
      | some f => wrongF f
      | none => false)) := by
    rw [Bool.eq_iff_iff]
    simp only [List.any_eq_true, Bool.or_eq_true, and_t, decide_eq_true_eq]
    constructor
    · rintro ⟨f, hf, h1, h2⟩
      by_cases hk : f.tag ≤ K
      · exact .inl ⟨f, hf, hk, h2⟩
      · right
        have h3 := find_mem hr hf
        rw [show f.tag = K + 1 by omega] at h3
        rw [h3]
        exact h2
    · rintro (⟨f, hf, h1, h2⟩ | h)
      · exact ⟨f, hf, by omega, h2⟩
      · split at h
        · rename_i f hf
          obtain ⟨h3, h4⟩ := find_tag hf
          exact ⟨f, h3, by omega, h⟩
        · cases h
  unfold wrongB
  rw [key]
  cases hf : findF fs (K + 1) with
  | none => simp
  | some f =>
    obtain ⟨h3, h4⟩ := find_tag hf
    have hw : wrongF f = (f.text != decide (11 ≤ K + 1)) := by unfold wrongF; rw [h4]
    dsimp only
    generalize (fs.any fun f => decide (f.tag ≤ K) && wrongF f) = B
    generalize decide (11 ≤ K + 1) = T at *
    by_cases ht : f.text = T
    · have hv : wrongF f = false := by rw [hw, ht]; simp
      simp [hv, ht]
    · have hv : wrongF f = true := by rw [hw]; simpa using ht
      simp [hv, ht]
theorem take_num {hs : List Held} {fs : List Fld} (hm : hs.map (·.1) = fs) {K : Int} : (takeH (hs.filter fun h => decide (K < h.1.tag)) (K + 1) false).1.num = cnumAt fs (K + 1) := by
  unfold takeH cnumAt
  rw [find_filter_gt hs (by omega), ← hm, ← find_h]
  cases findH hs (K + 1) with
  | none => rfl
  | some x =>
    dsimp only [Option.map_some]
    by_cases h : x.1.text = false
    · rw [if_pos h, if_pos h]
    · rw [if_neg h, if_neg h]; rfl
theorem take_text {hs : List Held} {fs : List Fld} (hm : hs.map (·.1) = fs) {K : Int} : (takeH (hs.filter fun h => decide (K < h.1.tag)) (K + 1) true).1.bytes = textAt fs (K + 1) := by
  unfold takeH textAt
  rw [find_filter_gt hs (by omega), ← hm, ← find_h]
  cases findH hs (K + 1) with
  | none => rfl
  | some x =>
    dsimp only [Option.map_some]
    by_cases h : x.1.text = true
    · rw [if_pos h, if_pos h]
    · rw [if_neg h, if_neg h]; rfl
theorem take_bad {hs : List Held} {fs : List Fld} (hm : hs.map (·.1) = fs) {b : Int} (hr : rising b fs) {K : Int} (tx : Bool) (ht : tx = decide (11 ≤ K + 1)) : takeB (hs.filter fun h => decide (K < h.1.tag)) (K + 1) tx (wrongB fs K) = wrongB fs (K + 1) := by
  rw [wrong_step hr, ht]
  unfold takeB
  rw [find_filter_gt hs (by omega), ← hm, ← find_h]
  cases findH hs (K + 1) with
  | none => rfl
  | some x => rfl
def IsK (K : Int) : Prop := 0 ≤ K ∧ K ≤ 1000
theorem IsK.i {K : Int} (h : IsK K) : IsI (K + 1) := by unfold IsK at h; unfold IsI; omega
theorem rs_num {W0 w : World} {g b : Nat} {fs : List Fld} {K t : Int} (h : RS W0 w g b fs K) (hr : rising 0 fs) (hk : IsK K) (h11 : K < 10) (ht : t = K + 1) :
    Calls Tryz.prog 135 #[.pointer (some ⟨g, 0, none⟩), .int .i64 t] w fun e w' => e = .returned (.int .u64 (cnumAt fs t : Nat)) ∧ Turn [g, b] w w' ∧ RS W0 w' g b fs t := by
  subst ht
  obtain ⟨hs, D, h1, h2, h3⟩ := h
  refine (rnum_any w _ g b _ _ D (K + 1) h2 hk.i).mono ?_
  rintro e w' ⟨rfl, ht, D', hx⟩
  rw [take_num h1, strike_filter, take_bad h1 hr false (by rw [decide_eq_false (by omega)])] at *
  exact ⟨rfl, ht, hs, D', h1, hx, ht.ext h3 (fun r hr => by
    rcases List.mem_cons.1 hr with rfl | hr
    · exact h2.lo.1
    · rw [List.mem_singleton.1 hr]; exact h2.lo.2)⟩
theorem rs_text {W0 w : World} {g b : Nat} {fs : List Fld} {K t : Int} (h : RS W0 w g b fs K) (hr : rising 0 fs) (hk : IsK K) (h11 : 10 ≤ K) (ht : t = K + 1) :
    Calls Tryz.prog 136 #[.pointer (some ⟨g, 0, none⟩), .int .i64 t] w fun e w' => ∃ A c, e = .returned (.slice A (textAt fs t).length c) ∧ Turn [g, b] w w' ∧ RS W0 w' g b fs t ∧ Rd w' A (textAt fs t).length (u8s (textAt fs t)) ∧ (textAt fs t).length ≤ c ∧ (textAt fs t).length ≤ maxLen := by
  subst ht
  obtain ⟨hs, D, h1, h2, h3⟩ := h
  refine (rtext_any w _ g b _ _ D (K + 1) h2 hk.i).mono ?_
  rintro e w' ⟨rfl, ht, D', hx⟩
  have hrd : w'.ownsRow W0.heap.size 5 1 (.slice (takeH (hs.filter fun h => decide (K < h.1.tag)) (K + 1) true).2.1 (takeH (hs.filter fun h => decide (K < h.1.tag)) (K + 1) true).1.bytes.length (takeH (hs.filter fun h => decide (K < h.1.tag)) (K + 1) true).2.2) (takeH (hs.filter fun h => decide (K < h.1.tag)) (K + 1) true).1.bytes.length (u8s (takeH (hs.filter fun h => decide (K < h.1.tag)) (K + 1) true).1.bytes) := by
    unfold takeH
    cases hf : findH (hs.filter fun h => decide (K < h.1.tag)) (K + 1) with
    | none => exact World.ownsRow_nil _ _ _ _
    | some x =>
      dsimp only
      by_cases hxt : x.1.text = true
      · rw [if_pos hxt]
        have hm := (find_some hf).1
        refine ht.own (h2.txt x hm) fun r hr hc => ?_
        rcases List.mem_cons.1 hc with rfl | hc
        · exact blk_off (h2.txt x hm) h2.blk (by decide) hr
        · rw [List.mem_singleton.1 hc] at hr
          exact own_notmap h2.own (h2.txt x hm) hr
      · rw [if_neg hxt]
        exact World.ownsRow_nil _ _ _ _
  rw [take_text h1] at hrd
  rw [take_text h1]
  rw [strike_filter, take_bad h1 hr true (by rw [decide_eq_true (by omega)])] at hx
  have hml : (textAt fs (K + 1)).length ≤ maxLen := by
    rcases hrd.2 with ⟨hv, h0⟩ | ⟨g, cap, cur, hv, _, _, hnc, hcm, _⟩
    · simp only [maxLen]; omega
    · omega
  exact ⟨_, _, rfl, ht, ⟨hs, D', h1, hx, ht.ext h3 (fun r hr => by
    rcases List.mem_cons.1 hr with rfl | hr
    · exact h2.lo.1
    · rw [List.mem_singleton.1 hr]; exact h2.lo.2)⟩, rd_own hrd, own_ncap hrd, hml⟩
def errK (fs : List Fld) (K : Int) : Nat := if fs.any (fun f => decide (f.tag ≤ K) && wrongF f) = true then 33 else if fs.any (fun f => decide (K < f.tag)) = true then 20 else 0
theorem rs_err {W0 w : World} {g b : Nat} {fs : List Fld} {K : Int} (h : RS W0 w g b fs K) :
    Calls Tryz.prog 138 #[.pointer (some ⟨g, 0, none⟩)] w fun e w' => e = .returned (.int .i64 (errK fs K : Nat)) ∧ Ext w w' := by
  obtain ⟨hs, D, h1, h2, h3⟩ := h
  refine (rerr_any w _ g b _ _ D h2).mono ?_
  rintro e w' ⟨rfl, hx⟩
  refine ⟨?_, hx⟩
  congr 4
  unfold errR errK wrongB
  split
  · rw [if_pos (by simp)]
  · rw [if_neg (by simp)]
    have : (0 < (hs.filter fun h => decide (K < h.1.tag)).length) ↔ fs.any (fun f => decide (K < f.tag)) = true := by
      rw [← h1, List.any_map, List.any_eq_true, List.length_pos_iff_exists_mem]
      constructor
      · rintro ⟨x, hx⟩
        obtain ⟨a, b⟩ := List.mem_filter.1 hx
        exact ⟨x, a, b⟩
      · rintro ⟨x, a, b⟩
        exact ⟨x, List.mem_filter.2 ⟨a, b⟩⟩
    by_cases h : 0 < (hs.filter fun h => decide (K < h.1.tag)).length
    · rw [if_pos h, if_pos (this.1 h)]
    · rw [if_neg h, if_neg (fun hc => h (this.2 hc))]
/-- A new reader: the fault, or a reader of the fields. -/
theorem rs_new (A : Option Addr) (n c : Nat) (l : List UInt8) (w : World) (hr : Rd w A n (u8s l)) (hnc : n ≤ c) (hn : n ≤ maxLen) :
    Calls Tryz.prog 132 #[.slice A n c] w fun e w' => Ext w w' ∧ (((dec l).2.2 ≠ 0 ∧ e = .returned (.tuple #[.pointer none, .int .i64 ((dec l).2.2 : Nat)])) ∨
      ((dec l).2.2 = 0 ∧ ∃ g b, e = .returned (.tuple #[.pointer (some ⟨g, 0, none⟩), .int .i64 0]) ∧ RS w w' g b (dec l).1 0)) := by
  refine (newReader_any A n c l w hr hnc hn).mono ?_
  rintro e w' ⟨hx, h | ⟨he, g, b, hs, D, rfl, hm, hR⟩⟩
  · exact ⟨hx, .inl h⟩
  · obtain ⟨_, _, _, _, _, _, hft, _⟩ := dec_inv he
    exact ⟨hx, .inr ⟨he, g, b, rfl, RS.mk0 hx hm hR (rising_mem (rising_of_faults hft))⟩⟩
end Go.Proofs.YtjajbbgebblalaaGreatDoor
