/-
  The walk of SimfsMounts.
-/
import Derived.Test.YtomnllkliifeoaaFsZ
import Derived.Test.YtomnllkliifeoaaLsE
namespace Go.Proofs.Ytomnllkliifeoaa
open Go.RowKit
set_option linter.unusedVariables false
set_option linter.unusedSimpArgs false
open Go.Maps
theorem mountG_all (l : List Fil) : ∀ d0 : Dk, ((d0.files ++ l).map (·.name)).Nodup → (∀ f ∈ l, rightB f.name = true ∧ f.safe ≤ f.data.length) → d0.used + (sumF l : Nat) ≤ d0.room →
    mountG d0 (l.map Fil.fv) = ({ d0 with files := d0.files ++ l, used := d0.used + (sumF l : Nat) }, 0) := by
  induction l with
  | nil => intro d0 _ _ _; simp [mountG, sumF]
  | cons f l ih =>
    intro d0 hnd hr hu
    rw [sumF_cons] at hu
    have hf := hr f (by simp)
    have h0 : mountOne d0 f.fv = 0 := by
      unfold mountOne
      have hno : (d0.files.any fun x => decide (x.name = f.fv.name)) = false := by
        rw [List.any_eq_false]
        intro x hx hc
        rw [List.map_append, List.nodup_append] at hnd
        exact hnd.2.2 x.name (List.mem_map.2 ⟨x, hx, rfl⟩) f.name (by simp) (of_decide_eq_true hc)
      rw [if_neg (by simp [Fil.fv, hf.1]), if_neg (by simp [hno]), if_neg (by simp only [Fil.fv]; omega), if_neg (by simp only [Fil.fv]; omega)]
    rw [List.map_cons]
    unfold mountG
    rw [if_pos h0]
    have ha : mountAdd d0 f.fv = { d0 with files := d0.files ++ [f], used := d0.used + (f.data.length : Nat) } := by unfold mountAdd; simp [Fil.fv]
    rw [ha, ih _ (by simpa [List.append_assoc] using hnd) (fun x hx => hr x (List.mem_cons_of_mem _ hx)) (by dsimp only; omega)]
    dsimp only
    rw [List.append_assoc, List.singleton_append, sumF_cons]
    congr 2
    omega
theorem sortF_sorted (l : List Fil) : sortF (sortF l) = sortF l := List.mergeSort_of_pairwise (sortF_pair l)
theorem mount_img {d : Dk} (h : DkInv d) {room : Int} (hr : d.room = min (max 0 room) 67108864) :
    mountD room (imgL d) = ({ newD room with files := sortF d.files, used := d.used }, 0) ∧ DkInv { newD room with files := sortF d.files, used := d.used } := by
  have hp := sortF_perm d.files
  have hu : d.used = (sumF d.files : Nat) := h.ok.1
  have hs := sumF_perm hp
  have hrm : (newD room).room = d.room := hr.symm
  constructor
  · unfold mountD
    rw [if_neg (by rw [imgL_len]; have := h.cnt; omega)]
    have := mountG_all (sortF d.files) (newD room) (by show (((([] : List Fil) ++ sortF d.files)).map (fun f : Fil => f.name)).Nodup; rw [List.nil_append]; exact (hp.map _).nodup_iff.2 h.nd) (fun f hf => ⟨h.rt f (hp.mem_iff.1 hf), h.safe f (hp.mem_iff.1 hf)⟩) (by rw [hs, hrm]; have := h.ok.2.1; have e : (newD room).used = 0 := rfl; omega)
    unfold imgL
    rw [this]
    have e : (newD room).used = 0 := rfl
    have e2 : (newD room).files = [] := rfl
    rw [e, e2, hs, hu, List.nil_append, Int.zero_add]
  · refine h.of ?_ ?_ hrm ?_ ?_ ?_ (by simp [newD]) (by simp [newD]) ?_ <;> dsimp only
    · rw [hs]; exact hu
    · rw [hrm]; exact h.ok.2.1
    · exact fun f hf => h.safe f (hp.mem_iff.1 hf)
    · exact (hp.map _).nodup_iff.2 h.nd
    · exact fun f hf => h.rt f (hp.mem_iff.1 hf)
    · rw [sortF_len]; exact h.cnt
/-- A script, call by call. -/
def ScrR (W : World) (g b : Nat) (rm : Int) (c : Value) (wr : World) : Prop :=
  ∃ (k : Nat) (d : Dk) (D : DataW Value) (hs : List HF), c = .int .i64 k ∧ DkInv d ∧ d.steps ≤ (k : Nat) ∧ d.room = rm ∧ FsX W wr g d b D hs
set_option maxRecDepth 100000 in
set_option maxHeartbeats 8000000 in
theorem simfsMounts_walk (room : Int) (A : Option Addr) (c : Nat) (ops : List HO) (w : World) (hroom : IsI64 room) (hr : OpsRd w A ops) (hl : ops.length * 104 ≤ 140737488351232) :
    Calls Try.prog 11 #[.int .i64 room, .slice A ops.length c] w fun e w' => e = .returned (.bool true) ∧ Ext w w' := by
  have KH := Lib.hid head_any
  have KN := Lib.hid (newK room)
  have hal := alloc_op
  have Hr := Lib.hid hr
  clear hr
  go_enter Try.func11, Try.ntmps11
  go_wp2_with (first
    | (go_at_call 14; (with_reducible refine (KH.out _).mono ?_); rintro e w1 ⟨rfl, hx1⟩)
    | (go_at_call 15; (with_reducible refine (KN.out _).mono ?_); rintro e w2 ⟨g, b, rfl, hX2⟩))
  go_loopw [16] (fun c16 wr => ScrR w g b (min (max 0 room) 67108864) c16 wr) (fun c16 _ => ops.length - (intOf c16).toNat)
  case atStart => exact ⟨0, newD room, _, _, rfl, inv_new room, by simp [newD], rfl, hX2.low hx1⟩
  case round =>
    obtain ⟨k, d, D, hs, rfl, hI, hst, hrm, hX⟩ := hrel
    have HX := Lib.hid hX
    have Hrm := Lib.hid hrm
    clear hrm
    by_cases hlt : k < ops.length
    · obtain ⟨ob, oo, o, rfl, hok, hc, ho⟩ := op_at (Hr.out.ext hX.ext) hlt
      have Hc := Lib.hid hc
      have Ho := Lib.hid ho
      have HI1 := Lib.hid (inv_call hI o.1 ho.2.2.2.1)
      have hst1 := (callD_steps d o.1).2
      have Hrm1 := Lib.hid (callD_room d o.1)
      have KC := Lib.hid fun (w1 : World) (h : FsX w w1 g d b D hs) (h2 : OpOk w1 o) => call_any w w1 g b d D hs o h hI (by omega) h2
      unfold CallPost at KC
      clear hX hc hok ho
      go_wp2_with (first
        | (change wpList _ _ _ (⟨some 19, _, _, _, _, _⟩ :: _) _ _; refine wpL_load_op rfl (.tmp 18) rfl ob (oo + k * 7) rfl o Hc.out ?_)
        | (change wpList _ _ _ (⟨none, .store _ (.tmp 7) _, _, _, _, _⟩ :: _) _ _; refine wpL_store_new rfl 49 (.tmp 7) (.tmp 19) rfl wr.heap.size 49 (opcells noOp) (opcells o) rfl rfl rfl rfl (opcells_one o) 7 op_wide rfl ?_)
        | (change wpList _ _ _ (⟨some 21, _, _, _, _, _⟩ :: _) _ _; refine wpL_load_row (o := ⟨some 21, _, _, _, _, _⟩) rfl 49 (.tmp 7) rfl wr.heap.size 49 (opcells o) 7 rfl (BlkN rfl) op_wide rfl ?_)
        | (go_at_call 30; go_loud ((with_reducible refine (KC.out _ (HX.out.ext_ (by repeat (first | with_reducible exact Below.refl _ _ | with_reducible assumption | with_reducible refine ExtD ?_ | with_reducible refine ExtDN ?_ | with_reducible refine ExtA ?_ | (with_reducible refine ExtR ?_ ?_; (first | omega | (dsimp only; omega) | (simp; done) | (simp; omega))) | (with_reducible refine ExtS ?_ ?_; (first | omega | (dsimp only; omega) | (simp; done) | (simp; omega))) | with_reducible refine Ext.tr ?_ (by with_reducible assumption)))) (Ho.out.ext (by repeat (first | with_reducible exact Below.refl _ _ | with_reducible assumption | with_reducible refine ExtD ?_ | with_reducible refine ExtDN ?_ | with_reducible refine ExtA ?_ | (with_reducible refine ExtR ?_ ?_; (first | omega | (dsimp only; omega) | (simp; done) | (simp; omega))) | (with_reducible refine ExtS ?_ ?_; (first | omega | (dsimp only; omega) | (simp; done) | (simp; omega))) | with_reducible refine Ext.tr ?_ (by with_reducible assumption))))).mono ?_); rintro e w5 ⟨A5, c5, rfl, ⟨D5, hs5, hX5, ht5, hf5⟩, hown5⟩)))
      go_roundw
      case rel => exact ⟨k + 1, _, D5, hs5, by go_num, HI1.out, by omega, Hrm1.out.trans Hrm.out, hX5⟩
      case measure => simp [intOf]; omega
    · have d3 : decide (k < ops.length) = false := by simpa using hlt
      obtain ⟨hM, hIm⟩ := mount_img hI Hrm.out
      obtain ⟨dm, hdm⟩ : ∃ dm : Dk, dm = { newD room with files := sortF d.files, used := d.used } := ⟨_, rfl⟩
      rw [← hdm] at hM hIm
      have hfl : ∀ f ∈ imgL d, f.data.length ≤ 140737488351232 ∧ IsI64 f.safe := fun f hf => by
        have h1 : f.data.length ≤ sumV (imgL d) := le_sum_mem (List.mem_map.2 ⟨f, hf, rfl⟩)
        rw [sumV_img] at h1
        have h2 : d.used = (sumF d.files : Nat) := hI.ok.1
        have h3 := hI.ok.2
        obtain ⟨x, hx, rfl⟩ := List.mem_map.1 hf
        have h4 := hI.safe x ((sortF_perm _).mem_iff.1 hx)
        simp only [Fil.fv] at h1 ⊢
        unfold IsI64
        omega
      have KI := Lib.hid fun (w1 : World) (h : FsX w w1 g d b D hs) => imageK h hI
      have KM := Lib.hid fun (w1 : World) (A1 : Option Addr) (n1 c1 : Nat) (h : FlRd w1 A1 n1 (imgL d)) => mount_any room A1 n1 c1 (imgL d) w1 h hfl
      rw [hM] at KM
      unfold MountPost at KM
      simp only [if_true] at KM
      have him : imgL dm = imgL d := by unfold imgL; rw [hdm]; dsimp only; rw [sortF_sorted]
      have KJ := Lib.hid fun (W w1 : World) g1 b1 (D1 : DataW Value) (hs1 : List HF) (h : FsX W w1 g1 dm b1 D1 hs1) => imageK h hIm
      rw [him] at KJ
      have KU := Lib.hid fun (w1 : World) (h : FsX w w1 g d b D hs) => usedK h
      have KF := Lib.hid fun (w1 : World) (h : FsX w w1 g d b D hs) => freeK h hI
      have KV := Lib.hid fun (W w1 : World) g1 b1 (D1 : DataW Value) (hs1 : List HF) (h : FsX W w1 g1 dm b1 D1 hs1) => usedK h
      have KG := Lib.hid fun (W w1 : World) g1 b1 (D1 : DataW Value) (hs1 : List HF) (h : FsX W w1 g1 dm b1 D1 hs1) => freeK h hIm
      have KD := Lib.hid fun (W w1 : World) g1 b1 (D1 : DataW Value) (hs1 : List HF) (h : FsX W w1 g1 dm b1 D1 hs1) => downK h
      have KS := Lib.hid fun (W w1 : World) g1 b1 (D1 : DataW Value) (hs1 : List HF) (h : FsX W w1 g1 dm b1 D1 hs1) => stepsK h
      have e1 : dm.used = d.used := by rw [hdm]
      have e2 : dm.room = d.room := by rw [hdm]; exact Hrm.out.symm
      have e3 : dm.down = false := by rw [hdm]; rfl
      have e4 : dm.steps = 0 := by rw [hdm]; rfl
      rw [e1] at KV
      rw [e1, e2] at KG
      rw [e3] at KD
      rw [e4] at KS
      unfold GaveF at KI KJ
      have Him := Lib.hid (show ∀ f ∈ imgL d, f.data.length ≤ maxLen from fun f hf => by have := (hfl f hf).1; simp only [maxLen]; omega)
      have hL7 : (imgL d).length ≤ 700 := by rw [imgL_len]; exact hI.cnt
      obtain ⟨L, hL⟩ : ∃ L, L = (imgL d).length := ⟨_, rfl⟩
      rw [← hL] at KI KJ hL7
      have HL := Lib.hid hL
      have u1 : (d.used == d.used) = true := by simp
      have u2 : (d.room - d.used == d.room - d.used) = true := by simp
      clear hX hI hIm hM hdm hfl him e1 e2 e3 e4 hL
      go_wp2_with (first
        | (go_at_call 29; (with_reducible refine (KJ.out _ _ _ _ _ _ hY7).mono ?_); rintro e w8 ⟨A8, c8, hv8, rfl, hm8, hx8, hown8⟩; have hY8 := hY7.ext_ hx8; have hX8 := hX7.ext_ hx8; have R8 : FlRd w8 A8 L (imgL d) := (by have h2 := hown8.rd; rw [hm8] at h2; exact h2))
        | (go_at_call 29; (with_reducible refine (KI.out _ hX6).mono ?_); rintro e w7 ⟨A7, c7, hv7, rfl, hm7, hx7, hown7⟩; have hY7 := hY6.ext_ hx7; have hX7 := hX6.ext_ hx7; have R7 : FlRd w7 A7 L (imgL d) := (by have h2 := hown7.rd; rw [hm7] at h2; exact h2))
        | (go_at_call 29; (with_reducible refine (KI.out _ HX.out).mono ?_); rintro e w5 ⟨A5, c5, hv5, rfl, hm5, hx5, hown5⟩; have hX5 := HX.out.ext_ hx5; have R5 : FlRd w5 A5 L (imgL d) := (by have h2 := hown5.rd; rw [hm5] at h2; exact h2))
        | (go_at_call 41; go_loud ((with_reducible refine (KM.out _ _ _ _ R5).mono ?_); rintro e w6 ⟨g6, b6, D6, hs6, rfl, hY6⟩; have hX6 := hX5.ext_ hY6.ext))
        | (go_at_call 32; go_loud ((with_reducible refine (fsame_yes A7 A8 L c7 c8 (imgL d) w8 (R7.ext hx8) R8 (by simp only [maxLen]; omega) Him.out).mono ?_); rintro e w9 ⟨rfl, hx9⟩; have hY9 := hY8.ext_ hx9; have hX9 := hX8.ext_ hx9))
        | (go_at_call 31; (with_reducible refine (KU.out _ hX10).mono ?_); rintro e w11 ⟨rfl, hx11⟩; have hY11 := hY10.ext_ hx11; have hX11 := hX10.ext_ hx11)
        | (go_at_call 31; (with_reducible refine (KV.out _ _ _ _ _ _ hY9).mono ?_); rintro e w10 ⟨rfl, hx10⟩; have hY10 := hY9.ext_ hx10; have hX10 := hX9.ext_ hx10)
        | (go_at_call 21; (with_reducible refine (KF.out _ hX12).mono ?_); rintro e w13 ⟨rfl, hx13⟩; have hY13 := hY12.ext_ hx13; have hX13 := hX12.ext_ hx13)
        | (go_at_call 21; (with_reducible refine (KG.out _ _ _ _ _ _ hY11).mono ?_); rintro e w12 ⟨rfl, hx12⟩; have hY12 := hY11.ext_ hx12; have hX12 := hX11.ext_ hx12)
        | (go_at_call 33; (with_reducible refine (KD.out _ _ _ _ _ _ hY13).mono ?_); rintro e w14 ⟨rfl, hx14⟩; have hY14 := hY13.ext_ hx14; have hX14 := hX13.ext_ hx14)
        | (go_at_call 34; (with_reducible refine (KS.out _ _ _ _ _ _ hY14).mono ?_); rintro e w15 ⟨rfl, hx15⟩; have hX15 := hX14.ext_ hx15))
      go_ret
      exact ⟨rfl, hX15.ext⟩
end Go.Proofs.Ytomnllkliifeoaa
