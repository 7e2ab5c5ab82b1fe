/-
  The walk of SimfsRuns.
-/
/-
  The document's disk: Mount.
-/
import Derived.Test.YtjajbbgebblalaaGreatDoorRfG
import Derived.Test.YtjajbbgebblalaaGreatDoorFsT
import Derived.Test.YtjajbbgebblalaaGreatDoorFsZ
import Derived.Test.YtjajbbgebblalaaGreatDoorResT
namespace Go.Proofs.YtjajbbgebblalaaGreatDoor
open Go.RowKit
set_option linter.unusedVariables false
set_option linter.unusedSimpArgs false
open Go.Maps
theorem hv_lt {w : World} {B n c : Nat} {A : Option Addr} {hs : List HV} (h : OwnFl w B A n c hs) {r : Nat} (hr : hvB A hs r) : r < w.heap.size := by
  have aux : ∀ {A : Option Addr} {n c s : Nat} {e : TypeId} {xs : List Value}, w.ownsRow B e s (.slice A n c) n xs → A.map (·.block) = some r → r < w.heap.size := fun {A n c s e xs} ho ha => by
    cases A with
    | none => cases ha
    | some a => exact (ho.lt r (by simpa [Value.ownBlock] using ha)).2
  rcases hr with hr | ⟨x, hx, hr⟩
  · exact aux h.1 hr
  · exact aux (h.2 x hx) hr
theorem OwnFl.turn_ {w w' : World} {F : List Nat} {B n c : Nat} {A : Option Addr} {hs : List HV} (h : OwnFl w B A n c hs) (ht : Turn F w w') (hn : ∀ r, hvB A hs r → r ∉ F) : OwnFl w' B A n c hs := by
  have aux : ∀ {A : Option Addr} {n c s : Nat} {e : TypeId} {xs : List Value}, w.ownsRow B e s (.slice A n c) n xs → (∀ r, A.map (·.block) = some r → r ∉ F) → w'.ownsRow B e s (.slice A n c) n xs := fun {A n c s e xs} ho ha => ht.own ho fun r hr => ha r (by
    cases A with
    | none => cases hr
    | some a => simpa [Value.ownBlock] using hr)
  exact ⟨aux h.1 fun r hr => hn r (.inl hr), fun x hx => aux (h.2 x hx) fun r hr => hn r (.inr ⟨x, hx, hr⟩)⟩
theorem img_new (room : Int) : imgL (newD room) = [] := by unfold imgL sortF newD; simp
theorem hv_nil {F : List Nat} : ∀ r, hvB none [] r → r ∉ F := fun r hr => by
  rcases hr with hr | ⟨x, hx, _⟩
  · cases hr
  · cases hx
theorem turn_row {w : World} {g : Nat} {ds : Array Value} : Turn [g] w (w.setRow g ds) :=
  ⟨rfl, rfl, rfl, by simp [World.setRow], fun k _ hn => by
    simp only [World.setRow, Array.getElem?_modify]
    rw [if_neg (fun e => hn (by simp [e]))]⟩
theorem own_max {w : World} {base n c : Nat} {A : Option Addr} {xs : List Value} (h : w.ownsRow base 5 1 (.slice A n c) n xs) : n ≤ maxLen := by
  rcases h.2 with ⟨h1, h2⟩ | ⟨g, cap, cur, h1, _, _, h2, h3, _⟩
  · simp only [maxLen]; omega
  · injection h1 with _ _ h4
    omega
def RunR (W : World) (g b g6 : Nat) (c32 : Value) (wr : World) : Prop :=
  ∃ (k : Nat) (d : Dk) (D : DataW Value) (hs : List HF) (A : Option Addr) (n c : Nat) (hv : List HV), c32 = .int .i64 k ∧ DkInv d ∧ d.steps ≤ (k : Nat) ∧ FsX W wr g d b D hs ∧ hv.map (·.1) = imgL d ∧ OwnFl wr W.heap.size A n c hv ∧ (∀ r, hvB A hv r → r ∉ foot g b hs) ∧ g6 ∉ foot g b hs ∧ W.heap.size ≤ g6 ∧
    Blk wr g6 28 #[.slice A n c, .int .i64 d.room, .int .i64 d.fuse, .bool d.down, .int .i64 d.steps, .int .i64 d.read]
end Go.Proofs.YtjajbbgebblalaaGreatDoor

namespace Go.Proofs.YtjajbbgebblalaaGreatDoor
open Go.RowKit
set_option linter.unusedVariables false
set_option linter.unusedSimpArgs false
open Go.Maps
theorem img_add {d d' : Dk} {f : Fil} (h : d'.files = d.files ++ [f]) (hn : (d'.files.map (·.name)).Nodup) : putV f.fv (imgL d) = imgL d' := by
  refine img_eq ?_ (putV_pair (img_pair d)) hn
  rw [h, List.map_append]
  refine (putV_perm _ _).trans (((img_perm d).cons _).trans ?_)
  exact (List.perm_append_singleton _ _).symm
def MtPost (w : World) (r : Dk × Nat) (e : Ending) (w' : World) : Prop :=
  if r.2 = 0 then ∃ A n c hv, e = .returned (.tuple #[.agg #[.slice A n c, .int .i64 r.1.room, .int .i64 r.1.fuse, .bool r.1.down, .int .i64 r.1.steps, .int .i64 r.1.read], .int .i64 0]) ∧ hv.map (·.1) = imgL r.1 ∧ Ext w w' ∧ OwnFl w' w.heap.size A n c hv
  else e = .returned (.tuple #[.agg #[.slice none 0 0, .int .i64 0, .int .i64 0, .bool false, .int .i64 0, .int .i64 0], .int .i64 (r.2 : Nat)]) ∧ Ext w w'
theorem mt_bad {w w' : World} {r : Dk × Nat} {e : Ending} {k : Nat} (h : r.2 = k) (hk : k ≠ 0) (he : e = .returned (.tuple #[.agg #[.slice none 0 0, .int .i64 0, .int .i64 0, .bool false, .int .i64 0, .int .i64 0], .int .i64 (k : Nat)])) (hx : Ext w w') : MtPost w r e w' := by
  unfold MtPost
  rw [if_neg (by omega), h]
  exact ⟨he, hx⟩
def MtR (w : World) (g6 : Nat) (room : Int) (fs : List FV) (c7 c18 : Value) (wr : World) : Prop :=
  ∃ (k : Nat) (d : Dk) (A : Option Addr) (n c : Nat) (hv : List HV), c7 = .int .i64 d.used ∧ c18 = .int .i64 k ∧ k ≤ fs.length ∧ Ext w wr ∧ DkInv d ∧ d.files.length = k ∧ mountG d (fs.drop k) = mountG (newD room) fs ∧ hv.map (·.1) = imgL d ∧ OwnFl wr w.heap.size A n c hv ∧
    (d.room = (newD room).room ∧ d.fuse = 0 ∧ d.down = false ∧ d.steps = 0 ∧ d.read = 0) ∧ Blk wr g6 28 #[.slice A n c, .int .i64 (newD room).room, .int .i64 0, .bool false, .int .i64 0, .int .i64 0] ∧ Blk wr w.heap.size 28 #[.slice none 0 0, .int .i64 0, .int .i64 0, .bool false, .int .i64 0, .int .i64 0]
set_option maxRecDepth 100000 in
set_option maxHeartbeats 8000000 in
theorem rmount_any (room : Int) (A0 : Option Addr) (n0 c0 : Nat) (fs : List FV) (w : World) (hr : FlRd w A0 n0 fs) (hl : ∀ f ∈ fs, f.data.length ≤ 140737488351232 ∧ IsI64 f.safe) :
    Calls Tryz.prog 10 #[.int .i64 room, .slice A0 n0 c0] w (MtPost w (mountD room fs)) := by
  have KN := Lib.hid (rnew_any room)
  have Hlen := Lib.hid hr.len
  have Hl := Lib.hid hl
  have hal := alloc_fil
  have hdk := dk_zero
  obtain ⟨R0, hR0⟩ : ∃ R0, R0 = (newD room).room := ⟨_, rfl⟩
  have hR00 : min (max 0 room) 67108864 = R0 := hR0.symm
  have hRb : 0 ≤ R0 ∧ R0 ≤ 67108864 := by rw [← hR00]; omega
  rw [hR00] at KN
  have HR0 := Lib.hid hR0
  clear hl hR0 hR00
  by_cases h7 : 700 < n0
  · have e : mountD room fs = (newD room, 53) := by unfold mountD; rw [if_pos (by rw [Hlen.out]; exact h7)]
    rw [e]
    have d1 : decide ((700 : Int) < (n0 : Nat)) = true := by simp; omega
    clear hr e
    go_enter Tryz.func10, Tryz.ntmps10
    go_wp2_with (first
      | (go_at_call 48; (with_reducible refine (KN.out _).mono ?_); rintro e w1 ⟨rfl, hx1⟩; have b4 : Blk w1 w.heap.size 28 #[.slice none 0 0, .int .i64 0, .int .i64 0, .bool false, .int .i64 0, .int .i64 0] := BlkE (BlkN rfl) hx1)
      | (change wpList _ _ _ (⟨none, .store _ (.tmp 6) _, _, _, _, _⟩ :: _) _ _; refine wpL_store_new rfl 28 (.tmp 6) (.tmp 11) rfl w1.heap.size 28 #[.slice none 0 0, .int .i64 0, .int .i64 0, .bool false, .int .i64 0, .int .i64 0] #[.slice none 0 0, .int .i64 R0, .int .i64 0, .bool false, .int .i64 0, .int .i64 0] rfl rfl rfl rfl (dk_one _ _ _ _ _ _ _ _) 6 disk_wide rfl ?_)
      | (with_reducible refine wpL_store_row rfl 28 (.tmp 4) (.tmp 15) rfl w.heap.size 28 _ _ rfl rfl (BlkA b4) ((dk_size _ _ _ _ _ _ _ _).trans (dk_size _ _ _ _ _ _ _ _).symm) (dk_one _ _ _ _ _ _ _ _) 6 disk_wide (dk_size _ _ _ _ _ _ _ _) ?_))
    (try simp only [Exit.inBlock, Exit.then]); refine bodyPost_ret (v := .tuple #[.agg #[.slice none 0 0, .int .i64 0, .int .i64 0, .bool false, .int .i64 0, .int .i64 0], .int .i64 53]) (res_row_t rfl _ w.heap.size 28 _ 6 _ rfl rfl (Blk.setRow_ (BlkA b4)) disk_wide rfl) rfl ?_
    exact mt_bad (k := 53) rfl (Nat.succ_ne_zero 52) rfl (ExtR (Nat.le_refl _) (ExtA ((ExtA (Ext.rfl' w)).tr hx1)))
  · have e : mountD room fs = mountG (newD room) fs := by unfold mountD; rw [if_neg (by rw [Hlen.out]; exact h7)]
    rw [e]
    have d1 : decide ((700 : Int) < (n0 : Nat)) = false := by simp; omega
    clear e
    go_enter Tryz.func10, Tryz.ntmps10
    go_upto_region 5 with (first
      | (go_at_call 48; (with_reducible refine (KN.out _).mono ?_); rintro e w1 ⟨rfl, hx1⟩; have b4 : Blk w1 w.heap.size 28 #[.slice none 0 0, .int .i64 0, .int .i64 0, .bool false, .int .i64 0, .int .i64 0] := BlkE (BlkN rfl) hx1)
      | (change wpList _ _ _ (⟨none, .store _ (.tmp 6) _, _, _, _, _⟩ :: _) _ _; refine wpL_store_new rfl 28 (.tmp 6) (.tmp 11) rfl w1.heap.size 28 #[.slice none 0 0, .int .i64 0, .int .i64 0, .bool false, .int .i64 0, .int .i64 0] #[.slice none 0 0, .int .i64 R0, .int .i64 0, .bool false, .int .i64 0, .int .i64 0] rfl rfl rfl rfl (dk_one _ _ _ _ _ _ _ _) 6 disk_wide rfl ?_))
    have hX1 : Ext w (w1.alloc (.cells #[.slice none 0 0, .int .i64 R0, .int .i64 0, .bool false, .int .i64 0, .int .i64 0] 28)) := ExtA ((ExtA (Ext.rfl' w)).tr hx1)
    have b6 : Blk (w1.alloc (.cells #[.slice none 0 0, .int .i64 R0, .int .i64 0, .bool false, .int .i64 0, .int .i64 0] 28)) w1.heap.size 28 _ := BlkN rfl
    have b40 := BlkA (o := .cells #[.slice none 0 0, .int .i64 R0, .int .i64 0, .bool false, .int .i64 0, .int .i64 0] 28) b4
    have hg6 : w.heap.size < w1.heap.size := b4.lt
    generalize w1.heap.size = g6 at *
    generalize w1.alloc (.cells #[.slice none 0 0, .int .i64 R0, .int .i64 0, .bool false, .int .i64 0, .int .i64 0] 28) = W2 at *
    clear b4 hx1 KN
    go_wp2_with fail
    go_loopw [7, 18] (fun c7 c18 wr => MtR w g6 room fs c7 c18 wr) (fun _ c18 _ => n0 - (intOf c18).toNat)
    case atStart => exact ⟨0, newD room, none, 0, 0, [], rfl, rfl, by omega, hX1, inv_new room, rfl, rfl, (img_new room).symm, OwnFl.nil_ _ _, ⟨rfl, rfl, rfl, rfl, rfl⟩, by rw [← HR0.out]; exact b6, b40⟩
    case round =>
      obtain ⟨k, d, A, n, c, hv, rfl, rfl, hk, hx, hI, hfl, hM, hmap, hown, ⟨hd1, hd2, hd3, hd4, hd5⟩, b6r, b4r⟩ := hrel
      rw [← HR0.out] at b6r hd1
      have Hk := Lib.hid hk
      have HM := Lib.hid hM
      have Hd := Lib.hid (⟨hd1, hd2, hd3, hd4, hd5⟩ : d.room = R0 ∧ d.fuse = 0 ∧ d.down = false ∧ d.steps = 0 ∧ d.read = 0)
      have Hown := Lib.hid hown
      have Hmap := Lib.hid hmap
      have Hfl := Lib.hid hfl
      have Hg6r : Hid (g6 < wr.heap.size) := Lib.hid b6r.lt
      have hus : d.used = (sumF d.files : Nat) := hI.ok.1
      have hus0 : 0 ≤ d.used := by omega
      have hur : d.used ≤ R0 := by have := hI.ok.2.1; rw [hd1] at this; exact this
      clear hk hM hd1 hd2 hd3 hd4 hd5 b6 b40 hX1 hus
      by_cases hlt : k < n0
      · obtain ⟨b, o, f, Af, cf, hfk, rfl, hc, hrf⟩ := fl_at hr hlt
        have hfb := Hl.out f (List.mem_of_getElem? hfk)
        have hdr : fs.drop k = f :: fs.drop (k + 1) := by
          obtain ⟨h1, h2⟩ := List.getElem?_eq_some_iff.1 hfk
          rw [List.drop_eq_getElem_cons h1, h2]
        have hG : mountG (newD room) fs = if mountOne d f = 0 then mountG (mountAdd d f) (fs.drop (k + 1)) else (d, mountOne d f) := by rw [← HM.out, hdr]; rfl
        have HG := Lib.hid hG
        have hxw : Ext w wr := hx
        have KRt := Lib.hid fun W => rright_any f.name W
        have KA := Lib.hid fun W (hx : Ext wr W) => rat_any A n c (imgL d) R0 0 0 0 false f.name W (hv_fl (Hown.out.ext hx) Hmap.out) (by have := hown.len; have h2 := imgL_len d; rw [← hmap, List.length_map] at h2; have := hI.cnt; simp only [maxLen]; omega)
        have hAt := at_img hI.nd f.name
        have HInv := Lib.hid fun h0 => inv_mount hI (f := f) h0 (by have := Hlen.out; omega)
        have hone : mountOne d f = mountOne d f := rfl
        conv at hone => rhs; unfold mountOne
        have HRd := Lib.hid hrf
        obtain ⟨nm, fb, sf⟩ := f
        dsimp only at hfb hone hAt KA KRt HRd
        obtain ⟨m0, hm0⟩ : ∃ m0, m0 = fb.length := ⟨_, rfl⟩
        have e0 := (range_ext hc hxw) 0 _ rfl
        have e1 := (range_ext hc hxw) 1 _ rfl
        have e2 := (range_ext hc hxw) 2 _ rfl
        simp only [Nat.add_zero] at e0
        dsimp only at e0 e1 e2
        rw [← hm0] at e1 hfb hone HRd
        have Hm0 := Lib.hid hm0
        obtain ⟨hfb1, hfb2⟩ := hfb
        unfold IsI64 at hfb2
        clear hfk hc hrf hdr hG hm0 hmap hown hr
        go_upto_region 9 with (first
          | (change wpList _ _ _ (⟨none, .store _ (.tmp 9) _, _, _, _, _⟩ :: _) _ _; refine wpL_store_new rfl 58 (.tmp 9) (.tmp 24) rfl wr.heap.size 58 #[.string ⟨#[]⟩, .slice none 0 0, .int .i64 0] #[.string nm, .slice Af m0 cf, .int .i64 sf] rfl rfl rfl rfl (fil_one _ _ _ _ _) 3 fil_wide rfl ?_))
        have b9 : Blk (wr.alloc (.cells #[.string nm, .slice Af m0 cf, .int .i64 sf] 58)) wr.heap.size 58 #[.string nm, .slice Af m0 cf, .int .i64 sf] := BlkN rfl
        have b65 := BlkA (o := .cells #[.string nm, .slice Af m0 cf, .int .i64 sf] 58) b6r
        have b45 := BlkA (o := .cells #[.string nm, .slice Af m0 cf, .int .i64 sf] 58) b4r
        have hx5 : Ext wr (wr.alloc (.cells #[.string nm, .slice Af m0 cf, .int .i64 sf] 58)) := ExtA (Ext.rfl' _)
        have hg9 : w.heap.size ≤ wr.heap.size := hx.size
        generalize hg9' : wr.heap.size = g9 at *
        have HG9 := Lib.hid hg9'
        generalize wr.alloc (.cells #[.string nm, .slice Af m0 cf, .int .i64 sf] 58) = W5 at *
        clear e0 e1 e2 hg9' b6r b4r
        have q0 := b9.cell 0
        cases hrt : rightB nm
        case false =>
          rw [if_pos hrt] at hone
          rw [hrt] at KRt
          have HO := Lib.hid hone
          clear hone hAt hrt
          go_wp2_with (first
            | (go_at_call 49; (with_reducible refine (KRt.out _).mono ?_); rintro e W6 ⟨rfl, hx6⟩; have b46 := BlkE b45 hx6)
            | (with_reducible refine wpL_store_row rfl 28 (.tmp 4) (.tmp 29) rfl w.heap.size 28 _ _ rfl rfl b46 ((dk_size _ _ _ _ _ _ _ _).trans (dk_size _ _ _ _ _ _ _ _).symm) (dk_one _ _ _ _ _ _ _ _) 6 disk_wide (dk_size _ _ _ _ _ _ _ _) ?_))
          (try simp only [Exit.inBlock, Exit.then]); refine bodyPost_ret (v := .tuple #[.agg #[.slice none 0 0, .int .i64 0, .int .i64 0, .bool false, .int .i64 0, .int .i64 0], .int .i64 50]) (res_row_t rfl _ w.heap.size 28 _ 6 _ rfl rfl (Blk.setRow_ b46) disk_wide rfl) rfl ?_
          exact mt_bad (k := 50) (by rw [HG.out, HO.out]; rfl) (Nat.succ_ne_zero 49) rfl (ExtR (Nat.le_refl _) ((hxw.tr hx5).tr hx6))
        case true =>
          rw [if_neg (by rw [hrt]; simp)] at hone
          rw [hrt] at KRt
          clear hrt
          rcases hAt with ⟨ha, hi, _⟩ | ⟨k1, f1, ha, hi, _⟩
          case inr =>
            rw [if_pos ha] at hone
            rw [hi] at KA
            have HO := Lib.hid hone
            have t1 : decide ((0 : Int) ≤ (k1 : Int)) = true := by simp
            have t2 : decide ((k1 : Int) < 0) = false := by simp
            clear hone hi ha
            go_wp2_with (first
              | (go_at_call 49; (with_reducible refine (KRt.out _).mono ?_); rintro e W6 ⟨rfl, hx6⟩; have b46 := BlkE b45 hx6; have b66 := BlkE b65 hx6; have q0 := (BlkE b9 hx6).cell 0)
              | (with_reducible refine wpL_load_row rfl 28 (.tmp 6) rfl g6 28 _ 6 rfl b66 disk_wide (dk_size _ _ _ _ _ _ _ _) ?_)
              | (go_at_call 24; (with_reducible refine (KA.out _ (hx5.tr hx6)).mono ?_); rintro e W7 ⟨rfl, hx7⟩; have b47 := BlkE b46 hx7)
              | (with_reducible refine wpL_store_row rfl 28 (.tmp 4) (.tmp 35) rfl w.heap.size 28 _ _ rfl rfl b47 ((dk_size _ _ _ _ _ _ _ _).trans (dk_size _ _ _ _ _ _ _ _).symm) (dk_one _ _ _ _ _ _ _ _) 6 disk_wide (dk_size _ _ _ _ _ _ _ _) ?_))
            (try simp only [Exit.inBlock, Exit.then]); refine bodyPost_ret (v := .tuple #[.agg #[.slice none 0 0, .int .i64 0, .int .i64 0, .bool false, .int .i64 0, .int .i64 0], .int .i64 52]) (res_row_t rfl _ w.heap.size 28 _ 6 _ rfl rfl (Blk.setRow_ b47) disk_wide rfl) rfl ?_
            exact mt_bad (k := 52) (by rw [HG.out, HO.out]; rfl) (Nat.succ_ne_zero _) rfl (ExtR (Nat.le_refl _) (((hxw.tr hx5).tr hx6).tr hx7))
          case inl =>
            rw [if_neg (by rw [ha]; exact Bool.false_ne_true)] at hone
            rw [hi] at KA
            clear hi ha
            go_upto_region 13 with (first
              | (go_at_call 49; (with_reducible refine (KRt.out _).mono ?_); rintro e W6 ⟨rfl, hx6⟩; have b46 := BlkE b45 hx6; have b66 := BlkE b65 hx6; have q0 := (BlkE b9 hx6).cell 0)
              | (with_reducible refine wpL_load_row rfl 28 (.tmp 6) rfl g6 28 _ 6 rfl b66 disk_wide (dk_size _ _ _ _ _ _ _ _) ?_)
              | (go_at_call 24; (with_reducible refine (KA.out _ (hx5.tr hx6)).mono ?_); rintro e W7 ⟨rfl, hx7⟩; have b47 := BlkE b46 hx7))
            have b67 := BlkE b66 hx7
            have b97 := BlkE (BlkE b9 hx6) hx7
            have hx57 := (hx5.tr hx6).tr hx7
            have f1 := b97.cell 1
            have f2 := b97.cell 2
            clear q0 b9 b65 b45 hx5 hx6 hx7 b46 b66
            by_cases hs : sf < 0 ∨ (m0 : Int) < sf
            case pos =>
              rw [if_pos hs] at hone
              have HO := Lib.hid hone
              clear hone
              by_cases hs0 : sf < 0
              · have t1 : decide (sf < 0) = true := by simpa using hs0
                go_wp2_with (first | (with_reducible refine wpL_store_row rfl 28 (.tmp 4) (.tmp 47) rfl w.heap.size 28 _ _ rfl rfl b47 ((dk_size _ _ _ _ _ _ _ _).trans (dk_size _ _ _ _ _ _ _ _).symm) (dk_one _ _ _ _ _ _ _ _) 6 disk_wide (dk_size _ _ _ _ _ _ _ _) ?_))
                (try simp only [Exit.inBlock, Exit.then]); refine bodyPost_ret (v := .tuple #[.agg #[.slice none 0 0, .int .i64 0, .int .i64 0, .bool false, .int .i64 0, .int .i64 0], .int .i64 1]) (res_row_t rfl _ w.heap.size 28 _ 6 _ rfl rfl (Blk.setRow_ b47) disk_wide rfl) rfl ?_
                exact mt_bad (k := 1) (by rw [HG.out, HO.out]; rfl) (Nat.succ_ne_zero _) rfl (ExtR (Nat.le_refl _) (hxw.tr hx57))
              · have t1 : decide (sf < 0) = false := by simpa using hs0
                have t2 : decide ((m0 : Int) < sf) = true := by simpa using hs.resolve_left hs0
                go_wp2_with (first | (with_reducible refine wpL_store_row rfl 28 (.tmp 4) (.tmp 47) rfl w.heap.size 28 _ _ rfl rfl b47 ((dk_size _ _ _ _ _ _ _ _).trans (dk_size _ _ _ _ _ _ _ _).symm) (dk_one _ _ _ _ _ _ _ _) 6 disk_wide (dk_size _ _ _ _ _ _ _ _) ?_))
                (try simp only [Exit.inBlock, Exit.then]); refine bodyPost_ret (v := .tuple #[.agg #[.slice none 0 0, .int .i64 0, .int .i64 0, .bool false, .int .i64 0, .int .i64 0], .int .i64 1]) (res_row_t rfl _ w.heap.size 28 _ 6 _ rfl rfl (Blk.setRow_ b47) disk_wide rfl) rfl ?_
                exact mt_bad (k := 1) (by rw [HG.out, HO.out]; rfl) (Nat.succ_ne_zero _) rfl (ExtR (Nat.le_refl _) (hxw.tr hx57))
            case neg =>
              rw [if_neg hs] at hone
              have t1 : decide (sf < 0) = false := by simp; omega
              have t2 : decide ((m0 : Int) < sf) = false := by simp; omega
              have hrm : d.room = R0 := Hd.out.1
              rw [hrm] at hone
              have w1 : wrap64 (d.used + (m0 : Int)) = d.used + (m0 : Int) := by unfold wrap64; omega
              have k1 := b67.cell 1
              clear hs
              by_cases hf : R0 - d.used < (m0 : Nat)
              · rw [if_pos hf] at hone
                have HO := Lib.hid hone
                have t3 : decide (R0 < d.used + (m0 : Int)) = true := by simp; omega
                clear hone hrm
                go_wp2_with (first | (with_reducible refine wpL_store_row rfl 28 (.tmp 4) (.tmp 56) rfl w.heap.size 28 _ _ rfl rfl b47 ((dk_size _ _ _ _ _ _ _ _).trans (dk_size _ _ _ _ _ _ _ _).symm) (dk_one _ _ _ _ _ _ _ _) 6 disk_wide (dk_size _ _ _ _ _ _ _ _) ?_))
                (try simp only [Exit.inBlock, Exit.then]); refine bodyPost_ret (v := .tuple #[.agg #[.slice none 0 0, .int .i64 0, .int .i64 0, .bool false, .int .i64 0, .int .i64 0], .int .i64 54]) (res_row_t rfl _ w.heap.size 28 _ 6 _ rfl rfl (Blk.setRow_ b47) disk_wide rfl) rfl ?_
                exact mt_bad (k := 54) (by rw [HG.out, HO.out]; rfl) (Nat.succ_ne_zero _) rfl (ExtR (Nat.le_refl _) (hxw.tr hx57))
              · rw [if_neg hf] at hone
                have HO := Lib.hid hone
                have t3 : decide (R0 < d.used + (m0 : Int)) = false := by simp; omega
                clear hone hrm
                have hIn := HInv.out HO.out
                have KC := Lib.hid fun W (hx : Ext wr W) => copy_any Af m0 cf fb W (HRd.out.ext (hxw.tr hx)) (by omega)
                unfold NewB at KC
                rw [← Hm0.out] at KC
                have hnl : n = hv.length := (Hown.out.len).symm
                have hn7 : n ≤ 700 := by have h2 := imgL_len d; rw [← Hmap.out, List.length_map, ← hnl] at h2; have := hI.cnt; omega
                have KP : Hid (∀ A8 c8 W, Ext wr W → Calls Tryz.prog 50 #[.slice A n c, .agg #[.string nm, .slice A8 m0 c8, .int .i64 sf]] W fun e w' => ∃ A9 c9, e = .returned (.slice A9 (n + 1) c9) ∧ Ext W w' ∧ w'.ownsRow W.heap.size 58 3 (.slice A9 (n + 1) c9) (n + 1) (flCells (putH (⟨nm, fb, sf⟩, A8, c8) hv))) := Lib.hid fun A8 c8 W hx => by
                  have := rput_any A n c hv ⟨nm, fb, sf⟩ A8 c8 W (RdN.of_own (Hown.out.ext hx).1) (by omega)
                  unfold GaveH at this
                  rw [put_len, ← hnl] at this
                  dsimp only at this
                  rw [← Hm0.out] at this
                  exact this
                have HG69 : Hid (g6 < g9) := Lib.hid (by have := HG9.out; have := (Hg6r.out); omega)
                have HEnd : Hid (∀ A8 c8 W8 A9 c9 W9, Ext W7.drew W8 → W8.ownsRow W7.drew.heap.size 5 1 (.slice A8 m0 c8) m0 (u8s fb) → Ext W8 W9 → W9.ownsRow W8.heap.size 58 3 (.slice A9 (n + 1) c9) (n + 1) (flCells (putH (⟨nm, fb, sf⟩, A8, c8) hv)) →
                    MtR w g6 room fs (.int .i64 (d.used + (m0 : Int))) (.int .i64 ((k : Int) + 1)) (W9.setCell ⟨g6, 0, none⟩ (.slice A9 (n + 1) c9))) := Lib.hid (by
                  intro A8 c8 W8 A9 c9 W9 hx8 hou hx9 ho9
                  have b69 := BlkE (BlkE (BlkD b67) hx8) hx9
                  have b49 := BlkE (BlkE (BlkD b47) hx8) hx9
                  have hx79 : Ext W7 W9 := ((ExtD (Ext.rfl' _)).tr hx8).tr hx9
                  have hxr9 := hx57.tr hx79
                  have hz7 := hx57.size
                  have hz8 : W7.heap.size ≤ W8.heap.size := hx8.size
                  have hzw := hxw.size
                  refine ⟨k + 1, mountAdd d ⟨nm, fb, sf⟩, A9, n + 1, c9, putH (⟨nm, fb, sf⟩, A8, c8) hv, ?_, by go_num, by have := Hlen.out; omega, ExtS (by dsimp only; omega) (hxw.tr hxr9), hIn, by unfold mountAdd; dsimp only; rw [List.length_append, Hfl.out]; rfl, ?_, ?_, ⟨own_setT (own_base ho9 (by omega)) b69 (by decide), fun x hx => ?_⟩, ?_, ?_, BlkF (by dsimp only; omega) b49⟩
                  · unfold mountAdd
                    dsimp only
                    rw [← Hm0.out]
                  · rw [HG.out, if_pos HO.out]
                  · rw [put_fv, Hmap.out]
                    have h3 := (mount_ok HO.out).2.2.1
                    have h4 := img_add (d := d) (d' := mountAdd d ⟨nm, fb, sf⟩) (f := ⟨nm, fb, sf.toNat⟩) rfl hIn.nd
                    rw [← h4]
                    unfold Fil.fv
                    dsimp only at h3 ⊢
                    rw [Int.toNat_of_nonneg h3]
                  · refine own_setT ?_ b69 (by decide)
                    rcases putH_mem hx with rfl | hx
                    · dsimp only
                      rw [← Hm0.out]
                      exact own_base (own_ext hx9 hou) (show w.heap.size ≤ W7.heap.size by omega)
                    · exact own_ext hxr9 (Hown.out.2 x hx)
                  · obtain ⟨h1, h2, h3, h4, h5⟩ := Hd.out
                    exact ⟨by rw [← HR0.out]; exact h1, h2, h3, h4, h5⟩
                  · rw [← HR0.out]
                    exact Blk_eq (BlkS b69) rfl)
                clear hnl
                go_upto_region 18 with fail
                clear HG HO HInv HM Hmap Hfl Hd HRd Hown Hl Hlen HR0 KRt KA Hm0 f1 f2 k1 b47
                -- REGION18
                refine wp_region_held_drew (S := fun w' => Ext w w' ∧ Blk w' g9 58 #[.string nm, .slice Af m0 cf, .int .i64 sf]) (by kernel_rfl) ⟨ExtD (hxw.tr hx57), BlkD b97⟩ (fun hS => ?_)
                refine takeD (some 62) (i := 0) (oi := ⟨some 62, _, _, _, _, _⟩) (v := .pointer (some ⟨g6, 0, none⟩)) rfl rfl (by kernel_rfl) (by kernel_rfl) (by kernel_rfl) (fun _ _ _ h => h) (Or.inl ⟨by kernel_rfl, fun w hw => by go_simp⟩) hS ?_; (try simp only [Act.put, List.setIfInBounds_toArray, List.set_cons_zero, List.set_cons_succ])
                refine takeD (some 64) (i := 2) (oi := ⟨some 64, _, _, _, _, _⟩) (v := .pointer (some ⟨g9, 0, none⟩)) rfl rfl (by kernel_rfl) (by kernel_rfl) (by kernel_rfl) (fun _ _ _ h => h) (Or.inl ⟨by kernel_rfl, fun w hw => by go_simp⟩) hS ?_; (try simp only [Act.put, List.setIfInBounds_toArray, List.set_cons_zero, List.set_cons_succ])
                refine takeD (some 65) (i := 3) (oi := ⟨some 65, _, _, _, _, _⟩) (v := .string nm) rfl rfl (by kernel_rfl) (by kernel_rfl) (by kernel_rfl) (fun _ _ _ h => h) (Or.inl ⟨by kernel_rfl, fun w' hw => by have hc0 := hw.2.cell 0; go_simp⟩) hS ?_; (try simp only [Act.put, List.setIfInBounds_toArray, List.set_cons_zero, List.set_cons_succ])
                refine takeD (some 66) (i := 4) (oi := ⟨some 66, _, _, _, _, _⟩) (v := .pointer (some ⟨g9, 1, none⟩)) rfl rfl (by kernel_rfl) (by kernel_rfl) (by kernel_rfl) (fun _ _ _ h => h) (Or.inl ⟨by kernel_rfl, fun w hw => by go_simp⟩) hS ?_; (try simp only [Act.put, List.setIfInBounds_toArray, List.set_cons_zero, List.set_cons_succ])
                refine takeD (some 67) (i := 5) (oi := ⟨some 67, _, _, _, _, _⟩) (v := .slice Af m0 cf) rfl rfl (by kernel_rfl) (by kernel_rfl) (by kernel_rfl) (fun _ _ _ h => h) (Or.inl ⟨by kernel_rfl, fun w' hw => by have hc0 := hw.2.cell 1; go_simp⟩) hS ?_; (try simp only [Act.put, List.setIfInBounds_toArray, List.set_cons_zero, List.set_cons_succ])
                refine takeD (some 69) (i := 7) (oi := ⟨some 69, _, _, _, _, _⟩) (v := .pointer (some ⟨g9, 2, none⟩)) rfl rfl (by kernel_rfl) (by kernel_rfl) (by kernel_rfl) (fun _ _ _ h => h) (Or.inl ⟨by kernel_rfl, fun w hw => by go_simp⟩) hS ?_; (try simp only [Act.put, List.setIfInBounds_toArray, List.set_cons_zero, List.set_cons_succ])
                refine takeD (some 70) (i := 8) (oi := ⟨some 70, _, _, _, _, _⟩) (v := .int .i64 sf) rfl rfl (by kernel_rfl) (by kernel_rfl) (by kernel_rfl) (fun _ _ _ h => h) (Or.inl ⟨by kernel_rfl, fun w' hw => by have hc0 := hw.2.cell 2; go_simp⟩) hS ?_; (try simp only [Act.put, List.setIfInBounds_toArray, List.set_cons_zero, List.set_cons_succ])
                refine wpAnyH_ready (rs := [1, 6]) (by kernel_rfl) (by simp) (AllReadyH.cons (o := ⟨some 63, _, _, _, _, _⟩) rfl (fun K hK => ?_) (AllReadyH.cons (o := ⟨some 68, _, _, _, _, _⟩) rfl (fun K hK => ?_) (AllReadyH.nil)))
                · refine step_run rfl (some 63) rfl (.slice A n c) W7.drew (by have hc := b67.cell 0; go_simp) ?_; refine hK.out _ _ hS ?_; intro hS; clear hK; (try simp only [Act.put, List.setIfInBounds_toArray, List.set_cons_zero, List.set_cons_succ])
                  refine wpAnyH_ready (rs := [6]) (by kernel_rfl) (by simp) (AllReadyH.cons (o := ⟨some 68, _, _, _, _, _⟩) rfl (fun K hK => ?_) (AllReadyH.nil))
                  refine step_callG rfl (some 68) rfl 31 _ Tryz.func31 (by kernel_rfl) (by kernel_rfl) _ _ rfl #[.slice Af m0 cf] (by first | rfl | simp [Act.eval, Act.put]) _ (KC.out _ (ExtD hx57)) ?_; rintro e W8 ⟨A8, c8, rfl, hx8, hou⟩; refine ⟨_, rfl, hK.out _ _ ⟨Ext.tr hS.1 hx8, BlkE hS.2 hx8⟩ ?_⟩; intro hS; clear hK; (try simp only [Act.put, List.setIfInBounds_toArray, List.set_cons_zero, List.set_cons_succ])
                  refine takeD (some 71) (i := 9) (oi := ⟨some 71, _, _, _, _, _⟩) (v := .agg #[.string nm, .slice A8 m0 c8, .int .i64 sf]) rfl rfl (by kernel_rfl) (by kernel_rfl) (by kernel_rfl) (fun _ _ _ h => h) (Or.inl ⟨by kernel_rfl, fun w hw => by go_simp⟩) hS ?_; (try simp only [Act.put, List.setIfInBounds_toArray, List.set_cons_zero, List.set_cons_succ])
                  refine wpAnyH_ready (rs := [10]) (by kernel_rfl) (by simp) (AllReadyH.cons (o := ⟨some 72, _, _, _, _, _⟩) rfl (fun K hK => ?_) (AllReadyH.nil))
                  refine step_callG rfl (some 72) rfl 50 _ Tryz.func50 (by kernel_rfl) (by kernel_rfl) _ _ rfl #[.slice A n c, .agg #[.string nm, .slice A8 m0 c8, .int .i64 sf]] (by first | rfl | simp [Act.eval, Act.put]) _ (KP.out A8 c8 _ ((ExtD hx57).tr hx8)) ?_; rintro e W9 ⟨A9, c9, rfl, hx9, ho9⟩; refine ⟨_, rfl, hK.out _ _ ⟨Ext.tr hS.1 hx9, BlkE hS.2 hx9⟩ ?_⟩; intro hS; clear hK; (try simp only [Act.put, List.setIfInBounds_toArray, List.set_cons_zero, List.set_cons_succ])
                  refine takeD (some 73) (i := 11) (oi := ⟨some 73, _, _, _, _, _⟩) (v := .pointer (some ⟨g6, 0, none⟩)) rfl rfl (by kernel_rfl) (by kernel_rfl) (by kernel_rfl) (fun _ _ _ h => h) (Or.inl ⟨by kernel_rfl, fun w hw => by go_simp⟩) hS ?_; (try simp only [Act.put, List.setIfInBounds_toArray, List.set_cons_zero, List.set_cons_succ])
                  have b69 := BlkE (BlkE (BlkD b67) hx8) hx9
                  have z1 := b69.cell 0
                  have z2 := b69.frozen 0
                  refine wpAnyH_ready (rs := [12]) (by kernel_rfl) (by simp) (AllReadyH.cons (o := ⟨none, _, _, _, _, _⟩) rfl (fun K hK => ?_) (AllReadyH.nil))
                  refine step_skip rfl none rfl (W9.setCell ⟨g6, 0, none⟩ (.slice A9 (n + 1) c9)) (by unfold execOp; go_simp) ?_; refine hK.out _ _ ⟨ExtS (by dsimp only; omega) hS.1, BlkF (by have := HG69.out; dsimp only; omega) hS.2⟩ ?_; intro hS; clear hK; (try simp only [Act.put, List.setIfInBounds_toArray, List.set_cons_zero, List.set_cons_succ])
                  refine wpAnyH_done (by kernel_rfl) ?_ _
                  go_wp2_with fail
                  go_roundw
                  case rel => exact HEnd.out A8 c8 W8 A9 c9 W9 hx8 hou hx9 ho9
                  case measure => simp [intOf]; omega
                · refine step_callG rfl (some 68) rfl 31 _ Tryz.func31 (by kernel_rfl) (by kernel_rfl) _ _ rfl #[.slice Af m0 cf] (by first | rfl | simp [Act.eval, Act.put]) _ (KC.out _ (ExtD hx57)) ?_; rintro e W8 ⟨A8, c8, rfl, hx8, hou⟩; refine ⟨_, rfl, hK.out _ _ ⟨Ext.tr hS.1 hx8, BlkE hS.2 hx8⟩ ?_⟩; intro hS; clear hK; (try simp only [Act.put, List.setIfInBounds_toArray, List.set_cons_zero, List.set_cons_succ])
                  refine takeD (some 71) (i := 9) (oi := ⟨some 71, _, _, _, _, _⟩) (v := .agg #[.string nm, .slice A8 m0 c8, .int .i64 sf]) rfl rfl (by kernel_rfl) (by kernel_rfl) (by kernel_rfl) (fun _ _ _ h => h) (Or.inl ⟨by kernel_rfl, fun w hw => by go_simp⟩) hS ?_; (try simp only [Act.put, List.setIfInBounds_toArray, List.set_cons_zero, List.set_cons_succ])
                  refine wpAnyH_ready (rs := [1]) (by kernel_rfl) (by simp) (AllReadyH.cons (o := ⟨some 63, _, _, _, _, _⟩) rfl (fun K hK => ?_) (AllReadyH.nil))
                  refine step_run rfl (some 63) rfl (.slice A n c) W8 (by have hc := (BlkE (BlkD b67) hx8).cell 0; go_simp) ?_; refine hK.out _ _ hS ?_; intro hS; clear hK; (try simp only [Act.put, List.setIfInBounds_toArray, List.set_cons_zero, List.set_cons_succ])
                  refine wpAnyH_ready (rs := [10]) (by kernel_rfl) (by simp) (AllReadyH.cons (o := ⟨some 72, _, _, _, _, _⟩) rfl (fun K hK => ?_) (AllReadyH.nil))
                  refine step_callG rfl (some 72) rfl 50 _ Tryz.func50 (by kernel_rfl) (by kernel_rfl) _ _ rfl #[.slice A n c, .agg #[.string nm, .slice A8 m0 c8, .int .i64 sf]] (by first | rfl | simp [Act.eval, Act.put]) _ (KP.out A8 c8 _ ((ExtD hx57).tr hx8)) ?_; rintro e W9 ⟨A9, c9, rfl, hx9, ho9⟩; refine ⟨_, rfl, hK.out _ _ ⟨Ext.tr hS.1 hx9, BlkE hS.2 hx9⟩ ?_⟩; intro hS; clear hK; (try simp only [Act.put, List.setIfInBounds_toArray, List.set_cons_zero, List.set_cons_succ])
                  refine takeD (some 73) (i := 11) (oi := ⟨some 73, _, _, _, _, _⟩) (v := .pointer (some ⟨g6, 0, none⟩)) rfl rfl (by kernel_rfl) (by kernel_rfl) (by kernel_rfl) (fun _ _ _ h => h) (Or.inl ⟨by kernel_rfl, fun w hw => by go_simp⟩) hS ?_; (try simp only [Act.put, List.setIfInBounds_toArray, List.set_cons_zero, List.set_cons_succ])
                  have b69 := BlkE (BlkE (BlkD b67) hx8) hx9
                  have z1 := b69.cell 0
                  have z2 := b69.frozen 0
                  refine wpAnyH_ready (rs := [12]) (by kernel_rfl) (by simp) (AllReadyH.cons (o := ⟨none, _, _, _, _, _⟩) rfl (fun K hK => ?_) (AllReadyH.nil))
                  refine step_skip rfl none rfl (W9.setCell ⟨g6, 0, none⟩ (.slice A9 (n + 1) c9)) (by unfold execOp; go_simp) ?_; refine hK.out _ _ ⟨ExtS (by dsimp only; omega) hS.1, BlkF (by have := HG69.out; dsimp only; omega) hS.2⟩ ?_; intro hS; clear hK; (try simp only [Act.put, List.setIfInBounds_toArray, List.set_cons_zero, List.set_cons_succ])
                  refine wpAnyH_done (by kernel_rfl) ?_ _
                  go_wp2_with fail
                  go_roundw
                  case rel => exact HEnd.out A8 c8 W8 A9 c9 W9 hx8 hou hx9 ho9
                  case measure => simp [intOf]; omega
                -- END18
      · have hkn : k = n0 := by have := Hk.out; have := Hlen.out; omega
        subst hkn
        have hG : mountG (newD room) fs = (d, 0) := by rw [← HM.out, List.drop_eq_nil_of_le (by rw [Hlen.out]; exact Nat.le_refl _)]; rfl
        have HG := Lib.hid hG
        clear hG
        go_wp2_with (first
          | (with_reducible refine wpL_load_row rfl 28 (.tmp 6) rfl g6 28 _ 6 rfl b6r disk_wide (dk_size _ _ _ _ _ _ _ _) ?_)
          | (with_reducible refine wpL_store_row rfl 28 (.tmp 4) (.tmp 75) rfl w.heap.size 28 _ _ rfl rfl b4r ((dk_size _ _ _ _ _ _ _ _).trans (dk_size _ _ _ _ _ _ _ _).symm) (dk_one _ _ _ _ _ _ _ _) 6 disk_wide (dk_size _ _ _ _ _ _ _ _) ?_))
        (try simp only [Exit.inBlock, Exit.then]); refine bodyPost_ret (v := .tuple #[.agg #[.slice A n c, .int .i64 R0, .int .i64 0, .bool false, .int .i64 0, .int .i64 0], .int .i64 0]) (res_row_t rfl _ w.heap.size 28 _ 6 _ rfl rfl (Blk.setRow_ b4r) disk_wide rfl) rfl ?_
        rw [HG.out]
        unfold MtPost
        rw [if_pos rfl]
        obtain ⟨hd1, hd2, hd3, hd4, hd5⟩ := Hd.out
        refine ⟨A, n, c, hv, ?_, Hmap.out, ExtR (Nat.le_refl _) hx, dofl_row b4r Hown.out⟩
        dsimp only
        rw [hd1, hd2, hd3, hd4, hd5]
end Go.Proofs.YtjajbbgebblalaaGreatDoor
