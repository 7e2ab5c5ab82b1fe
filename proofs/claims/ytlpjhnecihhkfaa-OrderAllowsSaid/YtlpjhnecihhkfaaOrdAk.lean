/-
  The walk of order.Allowed.
-/
import Derived.Test.YtlpjhnecihhkfaaOrdC
import Derived.Test.YtlpjhnecihhkfaaOrdAe
import Derived.Laws.OwnMore
namespace Go.Proofs.Ytlpjhnecihhkfaa
open Go.RowKit
set_option linter.unusedVariables false
set_option linter.unusedSimpArgs false
/-- The kinds up to j for which a state has a use, rising. -/
def kindsN (s : St) : Nat → List Int
  | 0 => []
  | j + 1 => kindsN s j ++ (if useB s ((j + 1 : Nat) : Int) then [((j + 1 : Nat) : Int)] else [])
def allowed (s : St) : List Int := if validB s then kindsN s 10 else []
theorem kinds_yes {s : St} {k : Nat} (hk : 1 ≤ k) (h : useB s (k : Int) = true) : kindsN s k = kindsN s (k - 1) ++ [(k : Int)] := by
  obtain ⟨j, rfl⟩ : ∃ j, k = j + 1 := ⟨k - 1, by omega⟩
  show kindsN s j ++ _ = kindsN s j ++ _
  rw [if_pos h]
theorem kinds_not {s : St} {k : Nat} (hk : 1 ≤ k) (h : useB s (k : Int) = false) : kindsN s k = kindsN s (k - 1) := by
  obtain ⟨j, rfl⟩ : ∃ j, k = j + 1 := ⟨k - 1, by omega⟩
  show kindsN s j ++ _ = kindsN s j
  rw [if_neg (by rw [h]; simp)]
  simp
theorem kinds_len (s : St) (k : Nat) : (kindsN s k).length ≤ k := by
  induction k with
  | zero => exact Nat.le_refl _
  | succ k ih => show (kindsN s k ++ _).length ≤ _; rw [List.length_append]; split <;> simp <;> omega
theorem kinds_pre (s : St) {j k : Nat} (h : j ≤ k) : ∃ r, kindsN s k = kindsN s j ++ r := by
  induction k with
  | zero =>
    obtain rfl : j = 0 := by omega
    exact ⟨[], rfl⟩
  | succ k ih =>
    by_cases hj : j = k + 1
    · subst hj; exact ⟨[], by simp⟩
    · obtain ⟨r, hr⟩ := ih (by omega)
      exact ⟨r ++ _, by show kindsN s k ++ _ = _; rw [hr, List.append_assoc]⟩
theorem kinds_at {s : St} {k m : Nat} (hk : 1 ≤ k) (hm : k ≤ m) (h : useB s (k : Int) = true) : (kindsN s (k - 1)).length < (kindsN s m).length ∧ (kindsN s m)[(kindsN s (k - 1)).length]? = some (k : Int) := by
  obtain ⟨r, hr⟩ := kinds_pre s hm
  rw [kinds_yes hk h] at hr
  rw [hr]
  refine ⟨by simp, ?_⟩
  rw [List.append_assoc, List.getElem?_append_right (Nat.le_refl _)]
  simp
theorem kinds_mem {s : St} {m : Nat} {x : Int} : x ∈ kindsN s m ↔ 1 ≤ x ∧ x ≤ m ∧ useB s x = true := by
  induction m with
  | zero => simp [kindsN]; omega
  | succ m ih =>
    show x ∈ kindsN s m ++ _ ↔ _
    rw [List.mem_append, ih]
    by_cases hx : x = ((m + 1 : Nat) : Int)
    · subst hx
      cases hu : useB s ((m + 1 : Nat) : Int) with
      | true => simp; omega
      | false => simp
    · constructor
      · rintro (⟨a, b, c⟩ | h)
        · exact ⟨a, by omega, c⟩
        · split at h
          · simp at h; exact absurd h (by simpa using hx)
          · cases h
      · rintro ⟨a, b, c⟩
        exact .inl ⟨a, by omega, c⟩
theorem kinds_none {s : St} (h : s.status = 0) : kindsN s 10 = [1] := by
  obtain ⟨order, status, prior, cur, tax, ls, paid, refunded, events, refused, stamp, who⟩ := s
  dsimp only at h
  subst h
  simp [kindsN, useB]
theorem kinds_one {s : St} (h : s.status ≠ 0) : kindsN s 1 = [] := by
  simp [kindsN, useB, h]
theorem el_kd : Elem Try.prog 26 (.int .i64 0) 1 8 := ⟨by kernel_rfl, rfl, by decide⟩
theorem own_down {w : World} {b b' s n : Nat} {e : TypeId} {v : Value} {xs : List Value} (h : w.ownsRow b e s v n xs) (hb : b' ≤ b) : w.ownsRow b' e s v n xs := by
  obtain ⟨h1, h2 | ⟨g, cap, cur, e1, hg, r⟩⟩ := h
  · exact ⟨h1, .inl h2⟩
  · exact ⟨h1, .inr ⟨g, cap, cur, e1, by omega, r⟩⟩
def AlPost (w : World) (s : St) (e' : Ending) (w' : World) : Prop := ∃ A c, e' = .returned (.slice A (allowed s).length c) ∧ Ext w w' ∧ w'.ownsRow w.heap.size 26 1 (.slice A (allowed s).length c) (allowed s).length (ints (allowed s))
def AlR (W0 : World) (base : Nat) (s : St) (c3 c4 : Value) (wr : World) : Prop :=
  ∃ (k : Nat) (A : Option Addr) (c : Nat), c4 = .int .i64 (k : Nat) ∧ 2 ≤ k ∧ k ≤ 11 ∧ c3 = .slice A (kindsN s (k - 1)).length c ∧ Ext W0 wr ∧ wr.ownsRow base 26 1 (.slice A (kindsN s (k - 1)).length c) (kindsN s (k - 1)).length (ints (kindsN s (k - 1)))
theorem ints_app (l : List Int) (x : Int) : ints l ++ [.int .i64 x] = ints (l ++ [x]) := by simp [ints]
set_option maxRecDepth 100000 in
set_option maxHeartbeats 4000000 in
theorem allowed_any (s : St) (A : Option Addr) (c : Nat) (w : World) (hr : LsRd w A s.lines) (hn : s.lines.length ≤ 4611686018427387904) (hw : s.who.size ≤ 4611686018427387904) :
    Calls Try.prog 13 #[.agg (stcells s A c)] w (AlPost w s) := by
  have K1 := Lib.hid fun W (h : LsRd W A s.lines) => valid_any s A c W h hn hw
  have K2 := Lib.hid fun k W (h : LsRd W A s.lines) => allows_any s k A c W h hn
  have Ha : Hid (allowed s = if validB s then kindsN s 10 else []) := Lib.hid rfl
  unfold AlPost
  generalize validB s = B at *
  cases B with
  | false =>
    have hz : allowed s = [] := Ha.out
    go_enter Try.func13, Try.ntmps13
    go_wp2_with (first
      | (with_reducible refine wpL_load_row rfl 25 (.tmp 1) rfl _ 25 _ 12 rfl (BlkN rfl) st_wide (stc_size _ _ _) ?_)
      | (go_at_call 22; (with_reducible refine (K1.out _ (hr.ext (by repeat (first | with_reducible exact Below.refl _ _ | with_reducible assumption | with_reducible refine ExtD ?_ | with_reducible refine ExtDN ?_ | with_reducible refine ExtA ?_ | (with_reducible refine ExtR ?_ ?_; (first | omega | (dsimp only; omega) | (simp; done) | (simp; omega))) | (with_reducible refine ExtS ?_ ?_; (first | omega | (dsimp only; omega) | (simp; done) | (simp; omega))) | with_reducible refine Ext.tr ?_ (by with_reducible assumption))))).mono ?_); rintro e w1 ⟨rfl, hx1⟩))
    go_ret
    exact ⟨none, 0, by rw [hz]; rfl, (by repeat (first | with_reducible exact Below.refl _ _ | with_reducible assumption | with_reducible refine ExtD ?_ | with_reducible refine ExtDN ?_ | with_reducible refine ExtA ?_ | (with_reducible refine ExtR ?_ ?_; (first | omega | (dsimp only; omega) | (simp; done) | (simp; omega))) | (with_reducible refine ExtS ?_ ?_; (first | omega | (dsimp only; omega) | (simp; done) | (simp; omega))) | with_reducible refine Ext.tr ?_ (by with_reducible assumption))), by rw [hz]; exact World.ownsRow_nil _ _ _ _⟩
  | true =>
    have ha : allowed s = kindsN s 10 := Ha.out
    by_cases hs : s.status = 0
    · have hz : allowed s = [1] := by rw [ha, kinds_none hs]
      have s1 : (s.status == 0) = true := by simp; exact hs
      go_enter Try.func13, Try.ntmps13
      go_wp2_with (first
        | (with_reducible refine wpL_load_row rfl 25 (.tmp 1) rfl _ 25 _ 12 rfl (BlkN rfl) st_wide (stc_size _ _ _) ?_)
        | (go_at_call 22; (with_reducible refine (K1.out _ (hr.ext (by repeat (first | with_reducible exact Below.refl _ _ | with_reducible assumption | with_reducible refine ExtD ?_ | with_reducible refine ExtDN ?_ | with_reducible refine ExtA ?_ | (with_reducible refine ExtR ?_ ?_; (first | omega | (dsimp only; omega) | (simp; done) | (simp; omega))) | (with_reducible refine ExtS ?_ ?_; (first | omega | (dsimp only; omega) | (simp; done) | (simp; omega))) | with_reducible refine Ext.tr ?_ (by with_reducible assumption))))).mono ?_); rintro e w1 ⟨rfl, hx1⟩; have a1 : w1.cell? ⟨w.heap.size, 1, none⟩ = some (.int .i64 s.status) := Blk.cell (BlkE (BlkN (w := w) (cs := stcells s A c) (t := 25) rfl) hx1) 1))
      go_ret
      exact ⟨_, _, by rw [hz]; rfl, (by repeat (first | with_reducible exact Below.refl _ _ | with_reducible assumption | with_reducible refine ExtD ?_ | with_reducible refine ExtDN ?_ | with_reducible refine ExtA ?_ | (with_reducible refine ExtR ?_ ?_; (first | omega | (dsimp only; omega) | (simp; done) | (simp; omega))) | (with_reducible refine ExtS ?_ ?_; (first | omega | (dsimp only; omega) | (simp; done) | (simp; omega))) | with_reducible refine Ext.tr ?_ (by with_reducible assumption))), by rw [hz]; exact World.ownsRow_lit _ #[.int .i64 1] 1 (by have := hx1.size; simp at this; omega) (by decide) rfl⟩
    · have s1 : (s.status == 0) = false := by simp; exact hs
      have H1 := kinds_one hs
      go_enter Try.func13, Try.ntmps13
      go_wp2_with (first
        | (with_reducible refine wpL_load_row rfl 25 (.tmp 1) rfl _ 25 _ 12 rfl (BlkN rfl) st_wide (stc_size _ _ _) ?_)
        | (go_at_call 22; (with_reducible refine (K1.out _ (hr.ext (by repeat (first | with_reducible exact Below.refl _ _ | with_reducible assumption | with_reducible refine ExtD ?_ | with_reducible refine ExtDN ?_ | with_reducible refine ExtA ?_ | (with_reducible refine ExtR ?_ ?_; (first | omega | (dsimp only; omega) | (simp; done) | (simp; omega))) | (with_reducible refine ExtS ?_ ?_; (first | omega | (dsimp only; omega) | (simp; done) | (simp; omega))) | with_reducible refine Ext.tr ?_ (by with_reducible assumption))))).mono ?_); rintro e w1 ⟨rfl, hx1⟩; have a1 : w1.cell? ⟨w.heap.size, 1, none⟩ = some (.int .i64 s.status) := Blk.cell (BlkE (BlkN (w := w) (cs := stcells s A c) (t := 25) rfl) hx1) 1))
      have hb1 : w.heap.size ≤ w1.heap.size := by have := hx1.size; simp at this; omega
      go_loopw [3, 4] (fun c3 c4 wr => AlR (w.alloc (.cells (stcells s A c) 25)) (w.heap.size + 1) s c3 c4 wr) (fun _ c4 _ => 11 - (intOf c4).toNat)
      case atStart => exact ⟨2, none, 0, rfl, by omega, by omega, by rw [H1]; rfl, (by repeat (first | with_reducible exact Below.refl _ _ | with_reducible assumption | with_reducible refine ExtD ?_ | with_reducible refine ExtDN ?_ | with_reducible refine ExtA ?_ | (with_reducible refine ExtR ?_ ?_; (first | omega | (dsimp only; omega) | (simp; done) | (simp; omega))) | (with_reducible refine ExtS ?_ ?_; (first | omega | (dsimp only; omega) | (simp; done) | (simp; omega))) | with_reducible refine Ext.tr ?_ (by with_reducible assumption))), by rw [H1]; exact World.ownsRow_nil _ _ _ _⟩
      case round =>
        obtain ⟨k, A2, c2, rfl, hk2, hk, rfl, hx, hown⟩ := hrel
        have hX0 : Ext w wr := Ext.tr (ExtA (Ext.rfl' w)) hx
        have hwb : w.heap.size + 1 ≤ wr.heap.size := by have := hx.size; simpa using this
        have hB := BlkE (BlkN (w := w) (cs := stcells s A c) (t := 25) rfl) hx
        by_cases hlt : k < 11
        · have ht : (k : Int) ≤ 10 := by omega
          have hl := kinds_len s (k - 1)
          have Hown := Lib.hid hown
          have K2k := K2.out (k : Int)
          cases hU : useB s (k : Int) with
          | true =>
            have hal : allowsB s (k : Int) = true := by unfold allowsB; rw [hU]; simp; omega
            rw [hal] at K2k
            have K3 := Lib.hid K2k
            have Hs := Lib.hid (kinds_yes (by omega) hU)
            have Hi := Lib.hid ((ints_app (kindsN s (k - 1)) (k : Int)).trans (by rw [← Hs.out]))
            have R1 : Hid (∀ W : World, RdN (W.alloc (.cells #[.int .i64 (k : Int)] 26)) 1 (some ⟨W.heap.size, 0, none⟩) 1 [.int .i64 (k : Int)]) := Lib.hid fun W => (rd_new W _ _).toN
            have Hl2 : Hid ((kindsN s k).length = (kindsN s (k - 1)).length + 1) := Lib.hid (by rw [Hs.out]; simp)
            clear hown K2k hal hU
            generalize kindsN s (k - 1) = xs at *
            generalize hm : xs.length = m at *
            go_wp2_with (first
              | (with_reducible refine wpL_load_row rfl 25 (.tmp 1) rfl _ 25 _ 12 rfl hB st_wide (stc_size _ _ _) ?_)
              | (go_at_call 30; (with_reducible refine (K3.out _ (hr.ext (by repeat (first | with_reducible exact Below.refl _ _ | with_reducible assumption | with_reducible refine ExtD ?_ | with_reducible refine ExtDN ?_ | with_reducible refine ExtA ?_ | (with_reducible refine ExtR ?_ ?_; (first | omega | (dsimp only; omega) | (simp; done) | (simp; omega))) | (with_reducible refine ExtS ?_ ?_; (first | omega | (dsimp only; omega) | (simp; done) | (simp; omega))) | with_reducible refine Ext.tr ?_ (by with_reducible assumption))))).mono ?_); rintro e w2 ⟨rfl, hx2⟩; have Hown1 := Lib.hid ((own_ext hx2 Hown.out).alloc (.cells #[.int .i64 (k : Int)] 26)); have hw2 : wr.heap.size ≤ w2.heap.size := hx2.size)
              | (at_builtin; go_must (refine wpL_append rfl (.tmp 19) (.tmp 21) _ rfl (w.heap.size + 1) 26 _ 1 8 Try.underlying29 el_kd (.slice A2 m c2) m (ints xs) rfl Hown1.out _ 1 1 [_] rfl (R1.out _) (by intro u hu; simp at hu; subst hu; rfl) (m + 1) _ rfl Hi.out (by simp only [maxLen]; omega) (by omega) (by simp; omega) ?_); intro v2 w3 hown2 hg2 hat2; obtain ⟨A3, c3, rfl⟩ := own_slice hown2))
            refine And.intro ?_ ?_
            · exact ⟨k + 1, A3, c3, by go_num, by omega, by omega, by rw [show k + 1 - 1 = k from rfl, Hl2.out], Ext.grown (by repeat (first | with_reducible exact Below.refl _ _ | with_reducible assumption | with_reducible refine ExtD ?_ | with_reducible refine ExtDN ?_ | with_reducible refine ExtA ?_ | (with_reducible refine ExtR ?_ ?_; (first | omega | (dsimp only; omega) | (simp; done) | (simp; omega))) | (with_reducible refine ExtS ?_ ?_; (first | omega | (dsimp only; omega) | (simp; done) | (simp; omega))) | with_reducible refine Ext.tr ?_ (by with_reducible assumption))) hg2 (fun g hg => by have := own_lt Hown1.out g hg; simpa using this), by rw [show k + 1 - 1 = k from rfl, Hl2.out]; exact hown2⟩
            · simp [intOf]; omega
          | false =>
            have hal : allowsB s (k : Int) = false := by unfold allowsB; rw [hU]; simp
            rw [hal] at K2k
            have K3 := Lib.hid K2k
            have Hs := Lib.hid (kinds_not (by omega) hU)
            clear hown K2k hal hU
            go_wp2_with (first
              | (with_reducible refine wpL_load_row rfl 25 (.tmp 1) rfl _ 25 _ 12 rfl hB st_wide (stc_size _ _ _) ?_)
              | (go_at_call 30; (with_reducible refine (K3.out _ (hr.ext (by repeat (first | with_reducible exact Below.refl _ _ | with_reducible assumption | with_reducible refine ExtD ?_ | with_reducible refine ExtDN ?_ | with_reducible refine ExtA ?_ | (with_reducible refine ExtR ?_ ?_; (first | omega | (dsimp only; omega) | (simp; done) | (simp; omega))) | (with_reducible refine ExtS ?_ ?_; (first | omega | (dsimp only; omega) | (simp; done) | (simp; omega))) | with_reducible refine Ext.tr ?_ (by with_reducible assumption))))).mono ?_); rintro e w2 ⟨rfl, hx2⟩))
            refine And.intro ?_ ?_
            · exact ⟨k + 1, A2, c2, by go_num, by omega, by omega, by rw [show k + 1 - 1 = k from rfl, Hs.out], (by repeat (first | with_reducible exact Below.refl _ _ | with_reducible assumption | with_reducible refine ExtD ?_ | with_reducible refine ExtDN ?_ | with_reducible refine ExtA ?_ | (with_reducible refine ExtR ?_ ?_; (first | omega | (dsimp only; omega) | (simp; done) | (simp; omega))) | (with_reducible refine ExtS ?_ ?_; (first | omega | (dsimp only; omega) | (simp; done) | (simp; omega))) | with_reducible refine Ext.tr ?_ (by with_reducible assumption))), by rw [show k + 1 - 1 = k from rfl, Hs.out]; exact own_ext hx2 Hown.out⟩
            · simp [intOf]; omega
        · obtain rfl : k = 11 := by omega
          rw [show 11 - 1 = 10 from rfl, ← ha] at hown ⊢
          go_wp2_with fail
          go_ret
          exact ⟨_, _, rfl, (by repeat (first | with_reducible exact Below.refl _ _ | with_reducible assumption | with_reducible refine ExtD ?_ | with_reducible refine ExtDN ?_ | with_reducible refine ExtA ?_ | (with_reducible refine ExtR ?_ ?_; (first | omega | (dsimp only; omega) | (simp; done) | (simp; omega))) | (with_reducible refine ExtS ?_ ?_; (first | omega | (dsimp only; omega) | (simp; done) | (simp; omega))) | with_reducible refine Ext.tr ?_ (by with_reducible assumption))), own_down hown (by omega)⟩
end Go.Proofs.Ytlpjhnecihhkfaa
