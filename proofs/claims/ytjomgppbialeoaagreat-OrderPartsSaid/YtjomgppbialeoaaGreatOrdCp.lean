/-
  The walks of the reference's Copy, and of its Same at equal states.
-/
import Derived.Test.YtjomgppbialeoaaGreatOrdI
namespace Go.Proofs.YtjomgppbialeoaaGreat
open Go.RowKit
set_option linter.unusedVariables false
set_option linter.unusedSimpArgs false
theorem step_append_own {P : Program} {ops : Array Oper} {o : Oper} {a : Act} {w : World} {K : Act → World → Prop} {Q : Exit → Act → World → Prop} {E : Prop}
    (hg : o.guard = none) (s x : Operand) (t : TypeId) (hop : o.op = Op.call { callee := Callee.builtin Builtin.append, args := #[s, x], argTypes := #[t, t] })
    (base : Nat) (e : TypeId) (z : Value) (size bytes : Nat) (h1 : P.underlying t = some (.slice e)) (he : Elem P e z size bytes)
    (v : Value) (n : Nat) (xs : List Value) (hs : a.eval s = v) (hown : w.ownsRow base e size v n xs)
    (ad : Addr) (m c : Nat) (news : List Value) (hx : a.eval x = .slice (some ad) m c) (hn : news.length = m * size) (hc : ∀ j u, news[j]? = some u → w.cell? (ad.add j) = some u) (h1c : ∀ u ∈ news, u.oneCell' = true)
    (b1 : n + m ≤ maxLen) (b2 : (n + m) * bytes ≤ 140737488355328) (hbase : base ≤ w.heap.size)
    (hK : ∀ v' w', w'.ownsRow base e size v' (n + m) (xs ++ news) → w.grownBy w' v.ownBlock → K (a.put o.dst v') w') :
    if Region.wanted o (yielded ops a.tmps) = true then Oper.wp P o a w K Q else E := by
  have hw : Region.wanted o (yielded ops a.tmps) = true := by simp [Region.wanted, hg]
  rw [if_pos hw]
  obtain ⟨i, h2, h3, h4, h5⟩ := info_parts he.1
  obtain ⟨v', w', hrun, r1, r2, _⟩ := run_append_own (P := P) w base t o.type e i z size bytes h1 h2 h3 h4 h5 he.2.1 he.2.2 v n xs hown ad m c news hn hc h1c b1 b2 hbase
  unfold Oper.wp
  simp [execOp, hop, resolve, invoke, builtin, hs, hx, hrun, Result.andThen]
  exact hK v' w' r1 r2
def CopPost (w : World) (s : St) (e' : Ending) (w' : World) : Prop := ∃ A' c', e' = .returned (.agg (stcells s A' c')) ∧ Ext w w' ∧ OwnLs w' w.heap.size A' s.lines c'
def CoR (w : World) (s : St) (A : Option Addr) (c : Nat) (c11 : Value) (wr : World) : Prop :=
  ∃ (k : Nat) (A' : Option Addr) (c' : Nat), c11 = .int .i64 (k : Nat) ∧ k ≤ s.lines.length ∧ Ext w wr ∧ Blk wr w.heap.size 25 (stcells s A c) ∧ Blk wr (w.heap.size + 1) 25 #[.int .i64 0, .int .i64 0, .int .i64 0, .int .i64 0, .int .i64 0, .slice none 0 0, .int .i64 0, .int .i64 0, .int .i64 0, .int .i64 0, .int .i64 0, .string ⟨#[]⟩] ∧
    Blk wr (w.heap.size + 1 + 1) 25 (stcells { s with lines := s.lines.take k } A' c') ∧ OwnLs wr w.heap.size A' (s.lines.take k) c'
theorem take_len {ls : List Ln} {k n : Nat} (h : k ≤ n) (hn : n = ls.length) : (ls.take k).length = k := by rw [List.length_take]; omega
set_option maxRecDepth 100000 in
set_option maxHeartbeats 4000000 in
theorem scopy_any (s : St) (A : Option Addr) (c : Nat) (w : World) (hr : LsRd w A s.lines) (hl : s.lines.length ≤ 4398046511000) :
    Calls Tryz.prog 7 #[.agg (stcells s A c)] w (CopPost w s) := by
  obtain ⟨order, status, prior, cur, tax, ls, paid, refunded, events, refused, stamp, who⟩ := s
  unfold CopPost
  have Hnn : Hid (∃ n, n = ls.length) := Lib.hid ⟨_, rfl⟩
  obtain ⟨n, hnn⟩ := Hnn.out
  have Hn := Lib.hid hnn
  clear Hnn
  unfold stcells at *
  dsimp only at *
  rw [← hnn] at hl ⊢
  clear hnn
  go_enter Tryz.func7, Tryz.ntmps7
  go_wp2_with fail
  go_loopw [11] (fun c11 wr => CoR w ⟨order, status, prior, cur, tax, ls, paid, refunded, events, refused, stamp, who⟩ A c c11 wr) (fun c11 _ => n - (intOf c11).toNat)
  case atStart => exact ⟨0, some ⟨w.heap.size + 1 + 1 + 1, 0, none⟩, 0, rfl, by omega, (by repeat (first | with_reducible exact Below.refl _ _ | with_reducible assumption | with_reducible refine ExtD ?_ | with_reducible refine ExtDN ?_ | with_reducible refine ExtA ?_ | (with_reducible refine ExtR ?_ ?_; (first | omega | (dsimp only; omega) | (simp; done) | (simp; omega))) | (with_reducible refine ExtS ?_ ?_; (first | omega | (dsimp only; omega) | (simp; done) | (simp; omega))) | with_reducible refine Ext.tr ?_ (by with_reducible assumption))), Blk_eq (cs := #[.int .i64 order, .int .i64 status, .int .i64 prior, .int .i64 cur, .int .i64 tax, .slice A n c, .int .i64 paid, .int .i64 refunded, .int .i64 events, .int .i64 refused, .int .i64 stamp, .string who]) (by repeat (first | with_reducible assumption | (with_reducible refine BlkN ?_; (first | rfl | (first | omega | (dsimp only; omega) | (simp; done) | (simp; omega)))) | with_reducible refine BlkD ?_ | with_reducible refine BlkDN ?_ | with_reducible refine BlkA ?_ | (with_reducible refine BlkF ?_ ?_; (first | omega | (dsimp only; omega) | (simp; done) | (simp; omega))) | with_reducible refine BlkE ?_ (by with_reducible assumption))) (by rw [Hn.out]; rfl), (by repeat (first | with_reducible assumption | (with_reducible refine BlkN ?_; (first | rfl | (first | omega | (dsimp only; omega) | (simp; done) | (simp; omega)))) | with_reducible refine BlkD ?_ | with_reducible refine BlkDN ?_ | with_reducible refine BlkA ?_ | (with_reducible refine BlkF ?_ ?_; (first | omega | (dsimp only; omega) | (simp; done) | (simp; omega))) | with_reducible refine BlkE ?_ (by with_reducible assumption))), Blk_eq (cs := #[.int .i64 order, .int .i64 status, .int .i64 prior, .int .i64 cur, .int .i64 tax, .slice (some ⟨w.heap.size + 1 + 1 + 1, 0, none⟩) 0 0, .int .i64 paid, .int .i64 refunded, .int .i64 events, .int .i64 refused, .int .i64 stamp, .string who]) (by repeat (first | with_reducible assumption | (with_reducible refine BlkN ?_; (first | rfl | (first | omega | (dsimp only; omega) | (simp; done) | (simp; omega)))) | with_reducible refine BlkD ?_ | with_reducible refine BlkDN ?_ | with_reducible refine BlkA ?_ | (with_reducible refine BlkF ?_ ?_; (first | omega | (dsimp only; omega) | (simp; done) | (simp; omega))) | with_reducible refine BlkE ?_ (by with_reducible assumption))) rfl, own_of_cells (by omega) (cur := #[]) (by repeat (first | with_reducible assumption | (with_reducible refine BlkN ?_; (first | rfl | (first | omega | (dsimp only; omega) | (simp; done) | (simp; omega)))) | with_reducible refine BlkD ?_ | with_reducible refine BlkDN ?_ | with_reducible refine BlkA ?_ | (with_reducible refine BlkF ?_ ?_; (first | omega | (dsimp only; omega) | (simp; done) | (simp; omega))) | with_reducible refine BlkE ?_ (by with_reducible assumption))) (Nat.zero_le _) (by decide) rfl rfl⟩
  case round =>
    obtain ⟨k, A2, c2, rfl, hk, hx, hbS, hbR, hbT, ho⟩ := hrel
    dsimp only at hk hbT ho
    rw [← Hn.out] at hk
    by_cases hlt : k < n
    · have hk0 : (ls.take k).length = k := take_len hk Hn.out
      have hk1 : (ls.take (k + 1)).length = k + 1 := take_len (n := n) (by omega) Hn.out
      obtain ⟨b, o, rfl, hc⟩ := ls_at hr (show k < ls.length by rw [← Hn.out]; exact hlt)
      have Hc := Lib.hid (range_ext hc hx)
      have hts : lnCells (ls.take (k + 1)) = lnCells (ls.take k) ++ (lncells (ls[k]'(by rw [← Hn.out]; exact hlt))).toList := by
        rw [List.take_succ_eq_append_getElem (by rw [← Hn.out]; exact hlt), lnCells_app, lnCells_one1]
      have H1 := Lib.hid (ln_one (ls[k]'(by rw [← Hn.out]; exact hlt)))
      clear hc
      generalize (ls[k]'(by rw [← Hn.out]; exact hlt)) = l at *
      obtain ⟨li, lp, lq, lsh⟩ := l
      unfold lncells at Hc hts H1
      dsimp only at Hc hts H1
      have e0 : wr.cell? ⟨b, o + k * 4, none⟩ = some (.int .i64 li) := Hc.out 0 _ rfl
      have e1 : wr.cell? ⟨b, o + k * 4 + 1, none⟩ = some (.int .i64 lp) := Hc.out 1 _ rfl
      have e2 : wr.cell? ⟨b, o + k * 4 + 2, none⟩ = some (.int .i64 lq) := Hc.out 2 _ rfl
      have e3 : wr.cell? ⟨b, o + k * 4 + 3, none⟩ = some (.int .i64 lsh) := Hc.out 3 _ rfl
      have hbS5 : wr.cell? ⟨w.heap.size, 5, none⟩ = some (.slice (some ⟨b, o, none⟩) n c) := (hbS.cell 5).trans (by rw [Hn.out]; rfl)
      have hbT' : Blk wr (w.heap.size + 1 + 1) 25 #[.int .i64 order, .int .i64 status, .int .i64 prior, .int .i64 cur, .int .i64 tax, .slice A2 k c2, .int .i64 paid, .int .i64 refunded, .int .i64 events, .int .i64 refused, .int .i64 stamp, .string who] := Blk_eq hbT (by simp only [stcells, hk0])
      have hbT5 : wr.cell? ⟨w.heap.size + 1 + 1, 5, none⟩ = some (.slice A2 k c2) := hbT'.cell 5
      have hA5 : ∀ ob, (wr.alloc ob).cell? ⟨w.heap.size + 1 + 1, 5, none⟩ = some (.slice A2 k c2) := fun ob => (BlkA hbT').cell 5
      have hap := own_apart ho hbT
      have Hown2 : Hid (World.ownsRow ((wr.alloc (.cells #[.int .i64 li, .int .i64 lp, .int .i64 lq, .int .i64 lsh] 44)).drew) w.heap.size 44 4 (.slice A2 k c2) k (lnCells (ls.take k))) := Lib.hid (by have := OwnD (OwnA (o := .cells #[.int .i64 li, .int .i64 lp, .int .i64 lq, .int .i64 lsh] 44) ho); unfold OwnLs at this; rwa [hk0] at this)
      have hbT2 : Blk ((wr.alloc (.cells #[.int .i64 li, .int .i64 lp, .int .i64 lq, .int .i64 lsh] 44)).drew) (w.heap.size + 1 + 1) 25 #[.int .i64 order, .int .i64 status, .int .i64 prior, .int .i64 cur, .int .i64 tax, .slice A2 k c2, .int .i64 paid, .int .i64 refunded, .int .i64 events, .int .i64 refused, .int .i64 stamp, .string who] := BlkD (BlkA hbT')
      have hbL : Blk ((wr.alloc (.cells #[.int .i64 li, .int .i64 lp, .int .i64 lq, .int .i64 lsh] 44)).drew) wr.heap.size 44 #[.int .i64 li, .int .i64 lp, .int .i64 lq, .int .i64 lsh] := BlkD (BlkN rfl)
      have Hnw : Hid (∀ j u, (#[.int .i64 li, .int .i64 lp, .int .i64 lq, .int .i64 lsh] : Array Value).toList[j]? = some u → ((wr.alloc (.cells #[.int .i64 li, .int .i64 lp, .int .i64 lq, .int .i64 lsh] 44)).drew).cell? ((⟨wr.heap.size, 0, none⟩ : Addr).add j) = some u) := Lib.hid fun j u hu => by rw [Addr.add_lit, Nat.zero_add, hbL.cell]; simpa using hu
      have hN : w.heap.size ≤ wr.heap.size := hx.size
      have Hbs : Hid (w.heap.size ≤ ((wr.alloc (.cells #[.int .i64 li, .int .i64 lp, .int .i64 lq, .int .i64 lsh] 44)).drew).heap.size) := Lib.hid (by simp; omega)
      have hkn : (k : Int) < (n : Int) := by omega
      have mixed : Tryz.prog.follows Departure.mixedOrders = true := by kernel_rfl
      have HbR := Lib.hid hbR
      have HbS := Lib.hid hbS
      have Hts := Lib.hid hts
      have ho0 := ho
      clear hbR hbS hbT hbT' hts ho
      go_wp2_with fail
      go_region_law_o (refine step_append_own rfl (.tmp 15) (.tmp 21) 23 rfl w.heap.size 44 _ 4 32 Tryz.underlying23 el_ln (.slice A2 k c2) k (lnCells (ls.take k)) (by simp [Act.eval, Act.put]) Hown2.out ⟨wr.heap.size, 0, none⟩ 1 1 [.int .i64 li, .int .i64 lp, .int .i64 lq, .int .i64 lsh] (by simp [Act.eval, Act.put]) rfl Hnw.out H1.out (by simp only [maxLen]; omega) (by omega) Hbs.out ?_; intro v' w2 hown' hg'; obtain ⟨A3, c3, rfl⟩ := own_slice hown'; have q := BlkG hbT2 hg' (fun h => hap _ _ h.symm); have z1 := q.cell 5; have z2 := q.frozen 5)
      all_goals
        go_wp2_with fail
        refine And.intro ?_ ?_
        · have o3 : OwnLs w2 w.heap.size A3 (ls.take (k + 1)) c3 := by unfold OwnLs; rw [hk1, Hts.out]; exact hown'
          have hap3 := own_apart o3 q
          have hX2 : Ext w w2 := Ext.grown (show Ext w ((wr.alloc (.cells #[.int .i64 li, .int .i64 lp, .int .i64 lq, .int .i64 lsh] 44)).drew) from (by repeat (first | with_reducible exact Below.refl _ _ | with_reducible assumption | with_reducible refine ExtD ?_ | with_reducible refine ExtDN ?_ | with_reducible refine ExtA ?_ | (with_reducible refine ExtR ?_ ?_; (first | omega | (dsimp only; omega) | (simp; done) | (simp; omega))) | (with_reducible refine ExtS ?_ ?_; (first | omega | (dsimp only; omega) | (simp; done) | (simp; omega))) | with_reducible refine Ext.tr ?_ (by with_reducible assumption)))) hg' (fun r hr2 => (World.ownsRow.lt Hown2.out r hr2).1)
          refine ⟨k + 1, A3, c3, by go_num, by have := Hn.out; dsimp only; omega, (by repeat (first | with_reducible exact Below.refl _ _ | with_reducible assumption | with_reducible refine ExtD ?_ | with_reducible refine ExtDN ?_ | with_reducible refine ExtA ?_ | (with_reducible refine ExtR ?_ ?_; (first | omega | (dsimp only; omega) | (simp; done) | (simp; omega))) | (with_reducible refine ExtS ?_ ?_; (first | omega | (dsimp only; omega) | (simp; done) | (simp; omega))) | with_reducible refine Ext.tr ?_ (by with_reducible assumption))), ?_, ?_, Blk_eq (BlkS q) (by simp only [stcells, hk1]; rfl), OwnSt hap3 o3⟩
          · exact BlkF (by dsimp only; omega) (BlkG (BlkD (BlkA HbS.out)) hg' (fun h => own_apart ho0 HbS.out _ _ h.symm))
          · exact BlkF (by dsimp only; omega) (BlkG (BlkD (BlkA HbR.out)) hg' (fun h => own_apart ho0 HbR.out _ _ h.symm))
        · simp [intOf]; omega
    · obtain rfl : k = n := by omega
      have htk : ls.take k = ls := List.take_of_length_le (by have := Hn.out; omega)
      rw [htk] at hbT ho
      have hbT' : Blk wr (w.heap.size + 1 + 1) 25 #[.int .i64 order, .int .i64 status, .int .i64 prior, .int .i64 cur, .int .i64 tax, .slice A2 k c2, .int .i64 paid, .int .i64 refunded, .int .i64 events, .int .i64 refused, .int .i64 stamp, .string who] := Blk_eq hbT (by simp only [stcells]; rw [← Hn.out])
      have hap := own_apart ho hbR
      go_wp2_with (first
        | (with_reducible refine wpL_load_row rfl 25 (.tmp 3) rfl _ 25 _ 12 rfl hbT' st_wide (st_size' _ _ _ _ _ _ _ _ _ _ _ _ _ _) ?_)
        | (with_reducible refine wpL_store_row rfl 25 (.tmp 2) (.tmp 25) rfl _ 25 _ _ rfl rfl hbR ((st_size' _ _ _ _ _ _ _ _ _ _ _ _ _ _).trans (st_size' _ _ _ _ _ _ _ _ _ _ _ _ _ _).symm) (st_one' _ _ _ _ _ _ _ _ _ _ _ _ _ _) 12 st_wide (st_size' _ _ _ _ _ _ _ _ _ _ _ _ _ _) ?_))
      refine bodyPost_ret (res_row rfl _ _ _ 25 _ 12 rfl (Blk.setRow_ hbR) st_wide rfl) rfl ?_
      exact ⟨A2, c2, rfl, (by repeat (first | with_reducible exact Below.refl _ _ | with_reducible assumption | with_reducible refine ExtD ?_ | with_reducible refine ExtDN ?_ | with_reducible refine ExtA ?_ | (with_reducible refine ExtR ?_ ?_; (first | omega | (dsimp only; omega) | (simp; done) | (simp; omega))) | (with_reducible refine ExtS ?_ ?_; (first | omega | (dsimp only; omega) | (simp; done) | (simp; omega))) | with_reducible refine Ext.tr ?_ (by with_reducible assumption))), OwnRw hap ho⟩
def SaR (W : World) (n : Nat) (c91 : Value) (wr : World) : Prop := ∃ k : Nat, c91 = .int .i64 (k : Nat) ∧ k ≤ n ∧ Ext W wr
end Go.Proofs.YtjomgppbialeoaaGreat
