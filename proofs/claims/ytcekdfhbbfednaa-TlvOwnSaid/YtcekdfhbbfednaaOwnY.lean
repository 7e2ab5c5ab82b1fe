/-
  What stands in the fields that the law TlvOwn writes over, step by step; blocks between two bounds.
-/
import Derived.Test.YtcekdfhbbfednaaOwnX
namespace Go.Proofs.Ytcekdfhbbfednaa
open Go.RowKit
set_option linter.unusedVariables false
set_option linter.unusedSimpArgs false
/-- The blocks from lo on and below hi. -/
def rng (lo hi : Nat) : List Nat := (List.range hi).filter fun r => decide (lo ≤ r)
theorem mem_rng {lo hi r : Nat} : r ∈ rng lo hi ↔ lo ≤ r ∧ r < hi := by simp [rng, and_comm]
/-- A list's blocks lie between the bounds, or are new. -/
def Inb (lo hi z : Nat) (A : Option Addr) (hs : List Held) : Prop := (∀ r ∈ blkOf A, r ∈ rng lo hi ∨ z ≤ r) ∧ ∀ h ∈ hs, ∀ r ∈ blkOf h.2.1, r ∈ rng lo hi ∨ z ≤ r
theorem Inb.set {lo hi z : Nat} {A : Option Addr} {hs : List Held} {i : Nat} {x : Held} (h : Inb lo hi z A hs) (hx : ∀ r ∈ blkOf x.2.1, r ∈ rng lo hi ∨ z ≤ r) : Inb lo hi z A (hs.set i x) :=
  ⟨h.1, fun y hy => by
    rcases List.mem_or_eq_of_mem_set hy with hy | rfl
    · exact h.2 y hy
    · exact hx⟩
theorem inb_of {w : World} {lo hi z n c : Nat} {A : Option Addr} {hs : List Held} (h : OwnFs w lo A n c hs) (hh : w.heap.size ≤ hi) : Inb lo hi z A hs :=
  ⟨fun r hr => .inl (mem_rng.2 ⟨(h.1.lt r (own_blkOf hr)).1, by have := h.new.1 r hr; omega⟩), fun x hx r hr => .inl (mem_rng.2 ⟨((h.2 x hx).lt r (own_blkOf hr)).1, by have := h.new.2 x hx r hr; omega⟩)⟩
def b8 (k : Nat) : UInt8 := UInt8.ofNat (k + 1)
def partF (k j : Nat) (f : Fld) : Fld := ⟨f.tag, f.text, f.num, List.replicate j (b8 k) ++ f.bytes.drop j⟩
def fillF (k : Nat) (f : Fld) : Fld := partF k f.bytes.length f
def appF (j : Nat) (f : Fld) : Fld := ⟨f.tag, f.text, f.num, f.bytes ++ List.replicate j 221⟩
theorem part_zero (k : Nat) (f : Fld) : partF k 0 f = f := by simp [partF]
theorem part_len (k j : Nat) (f : Fld) (h : j ≤ f.bytes.length) : (partF k j f).bytes.length = f.bytes.length := by simp [partF]; omega
theorem part_set (k j : Nat) (f : Fld) (h : j < f.bytes.length) : (partF k j f).bytes.set j (b8 k) = (partF k (j + 1) f).bytes := by
  unfold partF
  dsimp only
  rw [List.set_append_right _ _ (by simp), List.length_replicate, Nat.sub_self, List.drop_eq_getElem_cons h, List.set_cons_zero, List.replicate_succ', List.append_assoc]
  rfl
theorem fill_bytes (k : Nat) (f : Fld) : (fillF k f).bytes = List.replicate f.bytes.length (b8 k) := by simp [fillF, partF]
theorem app_zero (f : Fld) : appF 0 f = f := by simp [appF]
theorem app_succ (j : Nat) (f : Fld) : (appF j f).bytes ++ [221] = (appF (j + 1) f).bytes := by
  unfold appF
  dsimp only
  rw [List.append_assoc, List.replicate_succ']
/-- What stands in field k when the first i are done and j bytes of the next. -/
def stA (i j k : Nat) (f : Fld) : Fld := if k < i then fillF k f else if k = i then partF k j f else f
def stB (i j k : Nat) (f : Fld) : Fld := if k < i then appF 9 (fillF k f) else if k = i then appF j (fillF k f) else fillF k f
def Stands (st : Nat → Fld → Fld) (F : List Fld) (hs : List Held) : Prop := ∀ k, hs[k]?.map (·.1) = F[k]?.map (st k)
theorem Stands.len {st : Nat → Fld → Fld} {F : List Fld} {hs : List Held} (h : Stands st F hs) : hs.length = F.length := by
  have h1 := h hs.length
  have h2 := h F.length
  rw [List.getElem?_eq_none (l := hs) (Nat.le_refl _)] at h1
  rw [List.getElem?_eq_none (l := F) (Nat.le_refl _)] at h2
  have e1 : F[hs.length]? = none := by
    cases hq : F[hs.length]? with
    | none => rfl
    | some g => rw [hq] at h1; simp at h1
  have e2 : hs[F.length]? = none := by
    cases hq : hs[F.length]? with
    | none => rfl
    | some g => rw [hq] at h2; simp at h2
  have e3 := List.getElem?_eq_none_iff.1 e1
  have e4 := List.getElem?_eq_none_iff.1 e2
  omega
theorem stands_start {F : List Fld} {hs : List Held} (h : hs.map (·.1) = F) : Stands (stA 0 0) F hs := fun k => by
  rw [← h, List.getElem?_map]
  cases hs[k]? with
  | none => rfl
  | some x =>
    simp only [Option.map_some, Option.some.injEq]
    unfold stA
    rw [if_neg (by omega)]
    split
    · rw [part_zero]
    · rfl
theorem stands_set {st st' : Nat → Fld → Fld} {F : List Fld} {hs : List Held} {i : Nat} {x : Held} {f : Fld} (h : Stands st F hs) (hf : F[i]? = some f) (hx : x.1 = st' i f) (hst : ∀ k g, k ≠ i → st' k g = st k g) : Stands st' F (hs.set i x) := fun k => by
  by_cases hk : i = k
  · subst hk
    have hl : i < hs.length := by rw [h.len]; exact (List.getElem?_eq_some_iff.1 hf).1
    rw [List.getElem?_set_self hl, hf]
    simp [hx]
  · rw [List.getElem?_set_ne hk, h k]
    cases F[k]? with
    | none => rfl
    | some g => simp [hst k g (fun e => hk e.symm)]
theorem stands_mono {st st' : Nat → Fld → Fld} {F : List Fld} {hs : List Held} (h : Stands st F hs) (he : ∀ k g, F[k]? = some g → st' k g = st k g) : Stands st' F hs := fun k => by
  rw [h k]
  cases hg : F[k]? with
  | none => rfl
  | some g => simp [he k g hg]
theorem stA_next {F : List Fld} {hs : List Held} {i : Nat} {f : Fld} (hf : F[i]? = some f) (h : Stands (stA i f.bytes.length) F hs) : Stands (stA (i + 1) 0) F hs := stands_mono h fun k g hg => by
  unfold stA
  by_cases h1 : k < i
  · rw [if_pos (by omega), if_pos h1]
  · by_cases h2 : k = i
    · subst h2
      rw [hf] at hg
      injection hg with hg
      subst hg
      rw [if_pos (by omega), if_neg (by omega), if_pos rfl]
      rfl
    · rw [if_neg (by omega), if_neg h1, if_neg h2]
      split
      · rw [part_zero]
      · rfl
theorem stA_end {F : List Fld} {hs : List Held} (h : Stands (stA F.length 0) F hs) : Stands (stB 0 0) F hs := stands_mono h fun k g hg => by
  have hk := (List.getElem?_eq_some_iff.1 hg).1
  unfold stA stB
  rw [if_neg (by omega), if_pos hk]
  split
  · rw [app_zero]
  · rfl
theorem stB_next {F : List Fld} {hs : List Held} {i : Nat} (h : Stands (stB i 9) F hs) : Stands (stB (i + 1) 0) F hs := stands_mono h fun k g _ => by
  unfold stB
  by_cases h1 : k < i
  · rw [if_pos (by omega), if_pos h1]
  · by_cases h2 : k = i
    · rw [if_pos (by omega), if_neg h1, if_pos h2]
    · rw [if_neg (by omega), if_neg h1, if_neg h2]
      split
      · rw [app_zero]
      · rfl
theorem stB_end {F : List Fld} {hs : List Held} {k : Nat} {g : Fld} (h : Stands (stB F.length 0) F hs) (hg : F[k]? = some g) : ∃ A c, hs[k]? = some (appF 9 (fillF k g), A, c) := by
  have h1 := h k
  rw [hg] at h1
  have hk := (List.getElem?_eq_some_iff.1 hg).1
  cases hh : hs[k]? with
  | none => rw [hh] at h1; simp at h1
  | some x =>
    rw [hh] at h1
    simp only [Option.map_some, Option.some.injEq] at h1
    unfold stB at h1
    rw [if_pos hk] at h1
    exact ⟨x.2.1, x.2.2, by rw [← h1]⟩
theorem stA_at {F : List Fld} {hs : List Held} {i j : Nat} {f : Fld} (h : Stands (stA i j) F hs) (hf : F[i]? = some f) : ∃ A c, hs[i]? = some (partF i j f, A, c) := by
  have h1 := h i
  rw [hf] at h1
  cases hh : hs[i]? with
  | none => rw [hh] at h1; simp at h1
  | some x =>
    rw [hh] at h1
    simp only [Option.map_some, Option.some.injEq] at h1
    unfold stA at h1
    rw [if_neg (by omega), if_pos rfl] at h1
    exact ⟨x.2.1, x.2.2, by rw [← h1]⟩
theorem stB_at {F : List Fld} {hs : List Held} {i j : Nat} {f : Fld} (h : Stands (stB i j) F hs) (hf : F[i]? = some f) : ∃ A c, hs[i]? = some (appF j (fillF i f), A, c) := by
  have h1 := h i
  rw [hf] at h1
  cases hh : hs[i]? with
  | none => rw [hh] at h1; simp at h1
  | some x =>
    rw [hh] at h1
    simp only [Option.map_some, Option.some.injEq] at h1
    unfold stB at h1
    rw [if_neg (by omega), if_pos rfl] at h1
    exact ⟨x.2.1, x.2.2, by rw [← h1]⟩
theorem stA_ne {i j j' k : Nat} {g : Fld} (h : k ≠ i) : stA i j' k g = stA i j k g := by unfold stA; rw [if_neg h, if_neg h]
theorem stB_ne {i j j' k : Nat} {g : Fld} (h : k ≠ i) : stB i j' k g = stB i j k g := by unfold stB; rw [if_neg h, if_neg h]
theorem stA_self (i j : Nat) (f : Fld) : stA i j i f = partF i j f := by unfold stA; rw [if_neg (by omega), if_pos rfl]
theorem stB_self (i j : Nat) (f : Fld) : stB i j i f = appF j (fillF i f) := by unfold stB; rw [if_neg (by omega), if_pos rfl]
/-- The fields that are written over: where they lie, and what stands there. -/
def XR (lo hi : Nat) (wa : World) (A : Option Addr) (c : Nat) (F : List Fld) (st : Nat → Fld → Fld) (wr : World) : Prop :=
  ∃ hs, OwnFs wr lo A F.length c hs ∧ Apart hs ∧ Inb lo hi wa.heap.size A hs ∧ Turn (rng lo hi) wa wr ∧ Stands st F hs
theorem b8_val {i : Nat} (h : i ≤ 31) : (i : Int) + 1 = ((b8 i).toNat : Nat) := by
  unfold b8
  rw [UInt8.toNat_ofNat']
  omega
/-- One byte of field i. -/
theorem XR.byte {lo hi : Nat} {wa wy : World} {A : Option Addr} {c : Nat} {F : List Fld} {i j b c1 : Nat} {f : Fld} {hs : List Held} (ho : OwnFs wy lo A F.length c hs) (ha : Apart hs) (hi2 : Inb lo hi wa.heap.size A hs) (ht : Turn (rng lo hi) wa wy) (hs2 : Stands (stA i j) F hs) (hf : F[i]? = some f) (hg : hs[i]? = some (partF i j f, some ⟨b, 0, none⟩, c1)) (hj : j < f.bytes.length) :
    XR lo hi wa A c F (stA i (j + 1)) (wy.setCell ⟨b, j, none⟩ (.int .u8 ((b8 i).toNat : Nat))) := by
  obtain ⟨h1, h2⟩ := own_byte (v := b8 i) ho ha hg (by rw [part_len i j f (by omega)]; exact hj)
  have hb := hi2.2 _ (List.mem_of_getElem? hg) b (by simp [blkOf])
  refine ⟨_, h1, h2, hi2.set (fun r hr => hi2.2 _ (List.mem_of_getElem? hg) r hr), ht.trans (Turn.cell (F := [b]) (by simp)) (fun r hr => by rw [List.mem_singleton.1 hr]; exact hb), stands_set hs2 hf ?_ fun k g hk => stA_ne hk⟩
  rw [stA_self]
  rw [part_set i j f hj]
  rfl
/-- One byte behind field i. -/
theorem XR.grow {lo hi : Nat} {wa wy w' : World} {g c : Nat} {F : List Fld} {i j c1 c2 : Nat} {f : Fld} {A1 A2 : Option Addr} {hs : List Held} (ho : OwnFs wy lo (some ⟨g, 0, none⟩) F.length c hs) (ha : Apart hs) (hi2 : Inb lo hi wa.heap.size (some ⟨g, 0, none⟩) hs) (ht : Turn (rng lo hi) wa wy) (hs2 : Stands (stB i j) F hs) (hf : F[i]? = some f) (hg : hs[i]? = some (appF j (fillF i f), A1, c1))
    (ht2 : Turn (blkOf A1) wy w') (h2 : w'.ownsRow lo 5 1 (.slice A2 ((appF j (fillF i f)).bytes ++ [221]).length c2) ((appF j (fillF i f)).bytes ++ [221]).length (u8s ((appF j (fillF i f)).bytes ++ [221]))) (hn : ∀ r ∈ blkOf A2, r ∈ blkOf A1 ∨ wy.heap.size ≤ r) :
    XR lo hi wa (some ⟨g, 0, none⟩) c F (stB i (j + 1)) (w'.setCell ⟨g, i * 4 + 3, none⟩ (.slice A2 ((appF j (fillF i f)).bytes ++ [221]).length c2)) := by
  obtain ⟨h3, h4⟩ := own_grow ho ha hg ht2 h2 hn
  have hb := hi2.2 _ (List.mem_of_getElem? hg)
  have hz := ht.size
  refine ⟨_, h3, h4, hi2.set (fun r hr => ?_), (ht.trans ht2 (fun r hr => hb r hr)).trans (Turn.cell (F := [g]) (by simp)) (fun r hr => by rw [List.mem_singleton.1 hr]; exact hi2.1 g (by simp [blkOf])), stands_set hs2 hf ?_ fun k y hk => stB_ne hk⟩
  · rcases hn r hr with h | h
    · exact hb r h
    · exact .inr (by omega)
  · rw [stB_self, app_succ]
    rfl
theorem app_len (j : Nat) (f : Fld) : (appF j f).bytes.length = f.bytes.length + j := by simp [appF]
theorem fill_len (k : Nat) (f : Fld) : (fillF k f).bytes.length = f.bytes.length := by rw [fill_bytes]; simp
theorem row3 {w : World} {base g n c i : Nat} {hs : List Held} {h : Held} (ho : w.ownsRow base 29 4 (.slice (some ⟨g, 0, none⟩) n c) n (fsCells hs)) (hg : hs[i]? = some h) :
    w.cell? ⟨g, i * 4 + 3, none⟩ = some (.slice h.2.1 h.1.bytes.length h.2.2) ∧ w.frozen? ⟨g, i * 4 + 3, none⟩ = false := by
  have hlt := (List.getElem?_eq_some_iff.1 hg).1
  have hln : hs.length = n := by have := ho.1; rw [fsCells_len] at this; omega
  obtain ⟨g2, hg2, _, hcl⟩ := own_row_at ho (by omega)
  obtain rfl : g = g2 := by injection hg2 with h; injection h
  exact hcl (i * 4 + 3) _ (by rw [fsCells_at hs i 3 _ hg (by omega)]; rfl)
end Go.Proofs.Ytcekdfhbbfednaa
