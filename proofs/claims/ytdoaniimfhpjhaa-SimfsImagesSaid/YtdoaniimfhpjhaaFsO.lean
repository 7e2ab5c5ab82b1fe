/-
  Bytes of the call's own whose slice may have been cut to its length (its block may be longer than its capacity).
-/
import Derived.Test.YtdoaniimfhpjhaaFsM
namespace Go.Proofs.Ytdoaniimfhpjhaa
open Go.RowKit
set_option linter.unusedVariables false
set_option linter.unusedSimpArgs false
def OwnC (w : World) (base : Nat) (v : Value) (n : Nat) (l : List UInt8) : Prop :=
  l.length = n ∧ ((v = .slice none 0 0 ∧ n = 0) ∨
   ∃ g cap cur, v = .slice (some ⟨g, 0, none⟩) n cap ∧ base ≤ g ∧ Blk w g 5 cur ∧ n ≤ cap ∧ cap ≤ maxLen ∧ cap ≤ cur.size ∧ cur.toList.take n = u8s l)
theorem OwnC.of_own {w : World} {base n : Nat} {v : Value} {l : List UInt8} (h : w.ownsRow base 5 1 v n (u8s l)) : OwnC w base v n l := by
  refine ⟨by have := h.1; rw [u8s_len] at this; omega, ?_⟩
  rcases h.2 with h2 | ⟨g, cap, cur, h1, h2, h3, h4, h5, h6, h7⟩
  · exact .inl h2
  · exact .inr ⟨g, cap, cur, h1, h2, h3, h4, h5, by omega, by simpa using h7⟩
theorem OwnC.nil_ (w : World) (base : Nat) : OwnC w base (.slice none 0 0) 0 [] := ⟨rfl, .inl ⟨rfl, rfl⟩⟩
theorem OwnC.lt {w : World} {base n : Nat} {v : Value} {l : List UInt8} (h : OwnC w base v n l) : ∀ k, v.ownBlock = some k → base ≤ k ∧ k < w.heap.size := by
  intro k hk
  rcases h.2 with ⟨rfl, _⟩ | ⟨g, cap, cur, rfl, h2, h3, _⟩
  · cases hk
  · simp only [Value.ownBlock, Option.some.injEq] at hk
    subst hk
    exact ⟨h2, h3.lt⟩
theorem OwnC.heap_ {w w' : World} {base n : Nat} {v : Value} {l : List UInt8} (h : OwnC w base v n l) (hk : ∀ g, v.ownBlock = some g → w'.heap[g]? = w.heap[g]?) : OwnC w' base v n l := by
  refine ⟨h.1, ?_⟩
  rcases h.2 with h2 | ⟨g, cap, cur, rfl, h2, h3, h4⟩
  · exact .inl h2
  · exact .inr ⟨g, cap, cur, rfl, h2, (hk g rfl).trans h3, h4⟩
theorem Turn.ownC {F : List Nat} {a b : World} {base n : Nat} {v : Value} {l : List UInt8} (h : Turn F a b) (ho : OwnC a base v n l) (hn : ∀ r, v.ownBlock = some r → r ∉ F) : OwnC b base v n l :=
  ho.heap_ fun g hg => h.block g (ho.lt g hg).2 (hn g hg)
theorem OwnC.slice_ {w : World} {base n : Nat} {v : Value} {l : List UInt8} (h : OwnC w base v n l) : ∃ A c, v = .slice A n c := by
  rcases h.2 with ⟨rfl, rfl⟩ | ⟨g, cap, cur, rfl, _⟩
  · exact ⟨none, 0, rfl⟩
  · exact ⟨_, _, rfl⟩
theorem OwnC.rd {w : World} {base n c : Nat} {A : Option Addr} {l : List UInt8} (h : OwnC w base (.slice A n c) n l) : Rd w A n (u8s l) := by
  refine ⟨by rw [u8s_len]; exact h.1, fun h0 => ?_⟩
  rcases h.2 with ⟨_, h2⟩ | ⟨g, cap, cur, h1, h2, h3, h4, h5, h6, h7⟩
  · omega
  · injection h1 with h1 _ _
    subst h1
    refine ⟨g, 0, rfl, fun j u hu => ?_⟩
    rw [← h7] at hu
    rw [List.getElem?_take] at hu
    split at hu
    · rw [Nat.zero_add, h3.cell j, ← hu]; simp
    · cases hu
theorem OwnC.cut {w : World} {base n c k : Nat} {A : Option Addr} {l : List UInt8} (h : OwnC w base (.slice A n c) n l) (hk : k ≤ n) : OwnC w base (.slice A k k) k (l.take k) := by
  refine ⟨by rw [List.length_take, h.1]; omega, ?_⟩
  rcases h.2 with ⟨h1, h2⟩ | ⟨g, cap, cur, h1, h2, h3, h4, h5, h6, h7⟩
  · injection h1 with h1 _ _
    subst h1
    have : k = 0 := by omega
    subst this
    exact .inl ⟨rfl, rfl⟩
  · injection h1 with h1 _ _
    subst h1
    refine .inr ⟨g, k, cur, rfl, h2, h3, Nat.le_refl _, by omega, by omega, ?_⟩
    rw [u8s_take, ← h7, List.take_take, Nat.min_eq_left hk]
theorem OwnC.ne {w : World} {base p n : Nat} {t : TypeId} {cs : Array Value} {v : Value} {l : List UInt8} (h1 : Blk w p t cs) (h2 : OwnC w base v n l) (ht : t ≠ 5) : some p ≠ v.ownBlock := fun hc => by
  rcases h2.2 with ⟨rfl, _⟩ | ⟨g2, cap, cur, rfl, _, hg2, _⟩
  · cases hc
  · simp only [Value.ownBlock, Option.some.injEq] at hc
    subst hc
    unfold Blk at h1 hg2
    rw [h1] at hg2
    simp at hg2
    exact ht hg2.2
section
variable {w : World}
/-- append onto such bytes, from any bytes that read. -/
theorem run_appendC (base : Nat) (ty : TypeId) (v : Value) (n : Nat) (l : List UInt8) (hown : OwnC w base v n l) (A : Option Addr) (m c : Nat) (news : List UInt8) (hr : Rd w A m (u8s news)) (hb : n + m ≤ 140737488355328) (hbase : base ≤ w.heap.size) :
    ∃ v' w', (Builtin.append_ #[31, 31] ty #[v, .slice A m c]).run Try.prog w = .ok v' w' ∧ OwnC w' base v' (n + m) (l ++ news) ∧ w.grownBy w' v.ownBlock ∧ (v'.ownBlock = v.ownBlock ∨ v'.ownBlock = some w.heap.size) := by
  have hm : news.length = m := by have := hr.1; rw [u8s_len] at this; exact this
  by_cases hfull : ∃ g cap cur, v = .slice (some ⟨g, 0, none⟩) n cap ∧ base ≤ g ∧ Blk w g 5 cur ∧ n ≤ cap ∧ cap ≤ maxLen ∧ cap ≤ cur.size ∧ cur.toList.take n = u8s l ∧ cap ≠ cur.size
  · obtain ⟨g, cap, cur, rfl, h2, h3, h4, h5, h6, h7, _⟩ := hfull
    obtain ⟨i, hi, hz, hsize, hby⟩ := info_parts el_u8.1
    have hl := hown.1
    by_cases hroom : n + m ≤ cap
    · by_cases h0 : m = 0
      · subst h0
        have : news = [] := List.eq_nil_of_length_eq_zero hm
        subst this
        cases A with
        | none =>
          refine ⟨_, w, ?_, by simpa using hown, World.grownBy.refl w _, .inl rfl⟩
          simp [Builtin.append_, run_underlying Try.underlying31, sizeOf, typeInfo, hi, Builtin.lenOf, Builtin.firstCells, h4, storeCells]
        | some a =>
          have hfit : n * i.size + ([] : List Value).length ≤ cur.size := by rw [hsize]; simp; omega
          have hrun := run_append_room (P := Try.prog) w 31 ty 5 i Try.underlying31 hi g n cap cur h3 a 0 c [] (by simp) (fun j u hu => by simp at hu) (fun u hu => by cases hu) (by omega) hfit
          refine ⟨_, _, hrun, ⟨by simp [hl], .inr ⟨g, cap, _, rfl, h2, setRow_heap w g cur _ 5 _ h3, by omega, h5, ?_, ?_⟩⟩, ⟨rfl, rfl, rfl, by simp, fun k hk hk2 => setRow_other w g k _ (fun e => hk2 (by simp [Value.ownBlock, e]))⟩, .inl rfl⟩
          · simp [hsize]; omega
          · have e1 : (u8s l).length = n := by rw [u8s_len, hl]
            simp [hsize, h7]
            exact List.take_left' e1
      · obtain ⟨b, o, rfl, hc⟩ := hr.2 (by omega)
        have hcells : ∀ j u, (u8s news)[j]? = some u → w.cell? ((⟨b, o, none⟩ : Addr).add j) = some u := fun j u hu => by
          have := hc j u hu
          by_cases hj : j = 0 <;> simp_all [Addr.add]
        have hfit : n * i.size + (u8s news).length ≤ cur.size := by rw [hsize, u8s_len]; omega
        have hrun := run_append_room (P := Try.prog) w 31 ty 5 i Try.underlying31 hi g n cap cur h3 ⟨b, o, none⟩ m c (u8s news) (by rw [u8s_len, hsize]; omega) hcells (one_u8 _) hroom hfit
        refine ⟨_, _, hrun, ⟨by simp [hl, hm], .inr ⟨g, cap, _, rfl, h2, setRow_heap w g cur _ 5 _ h3, hroom, h5, ?_, ?_⟩⟩, ⟨rfl, rfl, rfl, by simp, fun k hk hk2 => setRow_other w g k _ (fun e => hk2 (by simp [Value.ownBlock, e]))⟩, .inl rfl⟩
        · simp [hsize, u8s_len]; omega
        · have e1 : (u8s l ++ u8s news).length = n + m := by rw [List.length_append, u8s_len, u8s_len, hl, hm]
          simp only [hsize, Nat.mul_one, h7, u8s_app]
          exact List.take_left' e1
    · obtain ⟨b, o, rfl, hc⟩ := hr.2 (by omega)
      have hcells : ∀ j u, (u8s news)[j]? = some u → w.cell? ((⟨b, o, none⟩ : Addr).add j) = some u := fun j u hu => by
        have := hc j u hu
        by_cases hj : j = 0 <;> simp_all [Addr.add]
      have holds : ∀ j u, (u8s l)[j]? = some u → w.cell? ((⟨g, 0, none⟩ : Addr).add j) = some u := fun j u hu => by
        have hrd := hown.rd
        have hj : j < n := by
          have h8 := (List.getElem?_eq_some_iff.1 hu).1
          rw [u8s_len] at h8; omega
        obtain ⟨b2, o2, he, hc2⟩ := hrd.2 (by omega)
        cases he
        have := hc2 j u hu
        by_cases hj0 : j = 0 <;> simp_all [Addr.add]
      have hrun := run_append_grow (P := Try.prog) w 31 ty 5 i _ Try.underlying31 hi hz ⟨g, 0, none⟩ n cap (u8s l) (by rw [u8s_len, hsize]; omega) holds ⟨b, o, none⟩ m c (u8s news) (by rw [u8s_len, hsize]; omega) hcells (by omega) (by omega) (growslice_fits (by omega) (by rw [hby]; omega))
      have hge := grownCap_ge w (n + m) cap 5
      have hcm : grownCap w (n + m) cap 5 ≤ maxLen := grownCap_le_maxLen w (n + m) cap 5 (by simp only [maxLen]; omega)
      refine ⟨_, _, hrun, ⟨by simp [hl, hm], .inr ⟨w.heap.size, _, _, rfl, hbase, heap_alloc_new w.drew _, hge, hcm, ?_, ?_⟩⟩, ⟨rfl, rfl, rfl, by simp, fun k hk _ => (ExtA (ExtD (Ext.rfl' w))).block k hk⟩, .inr rfl⟩
      · simp only [Array.size_append, List.size_toArray, size_zeroCells, u8s_len, el_u8.2.1]
        omega
      · have e1 : (u8s l ++ u8s news).length = n + m := by rw [List.length_append, u8s_len, u8s_len, hl, hm]
        simp only [Array.toList_append, u8s_app]
        exact List.take_left' e1
  · have hrow : w.ownsRow base 5 1 v n (u8s l) := by
      refine ⟨by rw [u8s_len, hown.1]; omega, ?_⟩
      rcases hown.2 with h | ⟨g, cap, cur, h1, h2, h3, h4, h5, h6, h7⟩
      · exact .inl h
      · refine .inr ⟨g, cap, cur, h1, h2, h3, h4, h5, ?_, by simpa using h7⟩
        by_cases hc : cap = cur.size
        · omega
        · exact absurd ⟨g, cap, cur, h1, h2, h3, h4, h5, h6, h7, hc⟩ hfull
    obtain ⟨v', w', hrun, h2, h3, h4⟩ := run_append_rd (P := Try.prog) (w := w) base 31 ty 5 _ 1 1 Try.underlying31 el_u8 v n (u8s l) hrow A m c (u8s news) hr.toN (one_u8 _) (by simp only [maxLen]; omega) (by omega) hbase
    exact ⟨v', w', hrun, .of_own (by rw [u8s_app]; exact h2), h3, h4⟩
theorem wpC_append {ops : Array Oper} {rest : List Oper} {o : Oper} {a : Act} {Q : Exit → Act → World → Prop} (hgd : o.guard = none) (s x : Operand)
    (ho : o.op = .call { callee := .builtin .append, args := #[s, x], argTypes := #[31, 31] }) (base : Nat) (v : Value) (n : Nat) (l : List UInt8) (hs : a.eval s = v) (hown : OwnC w base v n l)
    (A : Option Addr) (m c : Nat) (news : List UInt8) (hx : a.eval x = .slice A m c) (hr : Rd w A m (u8s news)) (hb : n + m ≤ 140737488355328) (hbase : base ≤ w.heap.size)
    (h : ∀ v' w', OwnC w' base v' (n + m) (l ++ news) → w.grownBy w' v.ownBlock → (v'.ownBlock = v.ownBlock ∨ v'.ownBlock = some w.heap.size) → wpList Try.prog ops Q rest (a.put o.dst v') w') : wpList Try.prog ops Q (o :: rest) a w := by
  obtain ⟨v', w', hrun, h2, h3, h4⟩ := run_appendC (w := w) base o.type v n l hown A m c news hr hb hbase
  refine wpList_plain hgd fun K hK => ?_
  unfold Oper.wp execOp
  simp only [ho, resolve, invoke, builtin, Sem.run_bind, Sem.run_pure, Result.andThen_ok, List.map_toArray, List.map_cons, List.map_nil, hs, hx, hrun]
  exact hK _ _ (h v' w' h2 h3 h4)
end
end Go.Proofs.Ytdoaniimfhpjhaa
