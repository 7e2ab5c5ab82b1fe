/-
  The plain law of an order's events: which events are valid, what they do to a state, what they cost. No program in sight.
-/
import Derived.RowKit
namespace Go.Proofs.YtjomgppbialeoaaGreat
open Go.RowKit
set_option linter.unusedVariables false
set_option linter.unusedSimpArgs false
structure Ln where
  item : Int
  price : Int
  qty : Int
  shipped : Int
structure St where
  order : Int
  status : Int
  prior : Int
  cur : Int
  tax : Int
  lines : List Ln
  paid : Int
  refunded : Int
  events : Int
  refused : Int
  stamp : Int
  who : ByteArray
structure Ev where
  kind : Int
  order : Int
  item : Int
  qty : Int
  price : Int
  cur : Int
  tax : Int
  who : ByteArray
  stamp : Int
  note : ByteArray
def net (ls : List Ln) : Int := (ls.map fun l => l.qty * l.price).sum
def taxOf (n t : Int) : Int := n * t / 10000
def due (s : St) : Int := net s.lines + taxOf (net s.lines) s.tax
def plainB (who : ByteArray) : Bool := who.data.toList.all fun c => c == 45 || (48 ≤ c && c ≤ 57) || (97 ≤ c && c ≤ 122)
def namedB (who : ByteArray) : Bool := decide (who.size ≤ 16) && plainB who
def wi (x lo hi : Int) : Bool := decide (lo ≤ x ∧ x ≤ hi)
theorem wi_iff {x lo hi : Int} : wi x lo hi = true ↔ lo ≤ x ∧ x ≤ hi := by simp [wi]
/-- What is wrong with an event of version 5. -/
def check5 (e : Ev) : Nat :=
  if e.kind < 1 ∨ 10 < e.kind then 31
  else if 16 < e.who.size ∨ 120 < e.note.size then 24
  else if wi e.order 1 1099511627776 && wi e.item 0 65535 && wi e.qty 0 10000 && wi e.price 0 100000000 && wi e.cur 0 3 && wi e.tax 0 5000 && plainB e.who && wi e.stamp 0 1099511627776 then 0 else 32
def lnB (l : Ln) : Bool := wi l.item 0 65535 && wi l.price 0 100000000 && wi l.qty 1 100000 && wi l.shipped 0 l.qty
/-- The lines behind one of the item before: within their bounds, and they rise. -/
def risesB : Int → List Ln → Bool
  | _, [] => true
  | b, l :: r => decide (b < l.item) && lnB l && risesB l.item r
def linedB (ls : List Ln) : Bool := decide (ls.length ≤ 16) && risesB (-1) ls
def boundedB (s : St) : Bool :=
  wi s.order 1 1099511627776 && wi s.status 0 5 && wi s.cur 0 3 && wi s.tax 0 5000 && linedB s.lines && wi s.refunded 0 s.paid && wi s.events 0 1099511627776 && wi s.refused 0 s.events && wi s.stamp 0 1099511627776 && namedB s.who
def noneB (ls : List Ln) : Bool := ls.all fun l => decide (l.shipped = 0)
def allB (ls : List Ln) : Bool := ls.all fun l => decide (l.shipped = l.qty)
def fullB (s : St) : Bool := decide (s.paid = due s ∧ 0 < s.paid)
def standsAt (s : St) : Int := if s.status = 2 then s.prior else s.status
def standsB (s : St) (at_ : Int) : Bool :=
  if at_ = 0 then decide (s.lines = []) && decide (s.cur = 0 ∧ s.tax = 0 ∧ s.events = s.refused ∧ s.stamp = 0) && decide (s.who.size = 0)
  else if at_ = 1 then noneB s.lines && !fullB s && decide (s.refunded = 0)
  else if at_ = 3 then fullB s && !allB s.lines
  else if at_ = 4 then fullB s && allB s.lines
  else noneB s.lines
def priorB (s : St) : Bool := if s.status = 2 then decide (s.prior = 1 ∨ s.prior = 3) else decide (s.prior = 0)
def validB (s : St) : Bool := boundedB s && decide (s.paid ≤ due s) && priorB s && standsB s (standsAt s)
/-- Whether an order that stands so has a use for the kind. -/
def useB (s : St) (k : Int) : Bool :=
  if k = 1 then decide (s.status = 0)
  else if k = 2 ∨ k = 6 then decide (s.status = 1 ∧ s.paid = 0)
  else if k = 3 then decide (s.status = 1)
  else if k = 4 ∨ k = 10 then decide (s.status = 3)
  else if k = 7 then decide (s.status = 3 ∨ s.status = 4 ∨ s.status = 5)
  else if k = 5 then decide (s.status = 1) || (decide (s.status = 2 ∨ s.status = 3) && noneB s.lines)
  else if k = 8 then decide (s.status = 1 ∨ s.status = 3)
  else decide (k = 9 ∧ s.status = 2)
/-- The line of an item. -/
def lineOf (ls : List Ln) (item : Int) : Option Ln := ls.find? fun l => decide (l.item = item)
def judge (s : St) (e : Ev) : Nat :=
  if validB s = false ∨ check5 e ≠ 0 ∨ s.events = 1099511627776 then 1
  else if e.order ≠ s.order then 2
  else if s.status = 0 ∧ e.kind ≠ 1 then 3
  else if s.status ≠ 0 ∧ e.kind = 1 then 4
  else if useB s e.kind = false then 5
  else if ((e.kind = 2 ∨ e.kind = 6 ∨ e.kind = 4) ∧ e.qty = 0) ∨ ((e.kind = 3 ∨ e.kind = 7) ∧ e.price = 0) then 6
  else match lineOf s.lines e.item with
    | none =>
      if e.kind = 6 ∨ e.kind = 4 then 7
      else if e.kind = 2 ∧ s.lines.length = 16 then 9
      else if (e.kind = 3 ∧ due s < s.paid + e.price) ∨ (e.kind = 7 ∧ s.paid < s.refunded + e.price) then 10 else 0
    | some l =>
      if e.kind = 2 ∧ l.price ≠ e.price then 8
      else if (e.kind = 2 ∧ 100000 < l.qty + e.qty) ∨ (e.kind = 6 ∧ l.qty < e.qty) ∨ (e.kind = 4 ∧ l.qty - l.shipped < e.qty) then 10
      else if (e.kind = 3 ∧ due s < s.paid + e.price) ∨ (e.kind = 7 ∧ s.paid < s.refunded + e.price) then 10 else 0
/-- q more of an item. -/
def more (item price q : Int) : List Ln → List Ln
  | [] => [⟨item, price, q, 0⟩]
  | l :: r => if item < l.item then ⟨item, price, q, 0⟩ :: l :: r
    else if l.item = item then (if 0 < l.qty + q then ⟨l.item, l.price, l.qty + q, l.shipped⟩ :: r else r)
    else l :: more item price q r
def shipL (item q : Int) (ls : List Ln) : List Ln := ls.map fun l => if l.item = item then ⟨l.item, l.price, l.qty, l.shipped + q⟩ else l
def clearL (ls : List Ln) : List Ln := ls.map fun l => ⟨l.item, l.price, l.qty, l.qty⟩
def rule (s : St) (e : Ev) : St :=
  if e.kind = 1 then { s with status := 1, cur := e.cur, tax := e.tax }
  else if e.kind = 2 then { s with lines := more e.item e.price e.qty s.lines }
  else if e.kind = 6 then { s with lines := more e.item e.price (-e.qty) s.lines }
  else if e.kind = 3 then { s with paid := s.paid + e.price, status := if s.paid + e.price = due s then 3 else s.status }
  else if e.kind = 4 then { s with lines := shipL e.item e.qty s.lines, status := if allB (shipL e.item e.qty s.lines) = true then 4 else s.status }
  else if e.kind = 10 then { s with lines := clearL s.lines, status := 4 }
  else if e.kind = 7 then { s with refunded := s.refunded + e.price }
  else if e.kind = 5 then { s with status := 5, prior := 0 }
  else if e.kind = 8 then { s with prior := s.status, status := 2 }
  else if e.kind = 9 then { s with status := s.prior, prior := 0 }
  else s
def bump (s : St) (e : Ev) : St := { s with events := s.events + 1, stamp := if s.stamp < e.stamp then e.stamp else s.stamp, who := if e.who.size = 0 then s.who else e.who }
def apply (s : St) (e : Ev) : St × Nat :=
  if judge s e = 1 ∨ judge s e = 2 then (s, judge s e)
  else if judge s e ≠ 0 then ({ s with events := s.events + 1, refused := s.refused + 1 }, judge s e)
  else (rule (bump s e) e, 0)
def fold (s : St) (es : List Ev) : St := es.foldl (fun s e => (apply s e).1) s
theorem and_t {a b : Bool} : (a && b) = true ↔ a = true ∧ b = true := by simp
theorem lnB_iff {l : Ln} : lnB l = true ↔ (0 ≤ l.item ∧ l.item ≤ 65535) ∧ (0 ≤ l.price ∧ l.price ≤ 100000000) ∧ (1 ≤ l.qty ∧ l.qty ≤ 100000) ∧ 0 ≤ l.shipped ∧ l.shipped ≤ l.qty := by
  simp only [lnB, and_t, wi_iff]
  constructor
  · rintro ⟨⟨⟨h1, h2⟩, h3⟩, h4⟩; exact ⟨h1, h2, h3, h4⟩
  · rintro ⟨h1, h2, h3, h4⟩; exact ⟨⟨⟨h1, h2⟩, h3⟩, h4⟩
theorem rises_cons {b : Int} {l : Ln} {r : List Ln} : risesB b (l :: r) = true ↔ b < l.item ∧ lnB l = true ∧ risesB l.item r = true := by
  simp only [risesB, and_t, decide_eq_true_eq]
  constructor
  · rintro ⟨⟨h1, h2⟩, h3⟩; exact ⟨h1, h2, h3⟩
  · rintro ⟨h1, h2, h3⟩; exact ⟨⟨h1, h2⟩, h3⟩
theorem rises_mem {b : Int} {ls : List Ln} (h : risesB b ls = true) : ∀ l ∈ ls, lnB l = true ∧ b < l.item := by
  induction ls generalizing b with
  | nil => intro l hl; cases hl
  | cons x r ih =>
    obtain ⟨h1, h2, h3⟩ := rises_cons.1 h
    intro l hl
    rcases List.mem_cons.1 hl with rfl | hl
    · exact ⟨h2, h1⟩
    · have := ih h3 l hl; exact ⟨this.1, by omega⟩
theorem rises_weak {b b' : Int} {ls : List Ln} (h : risesB b ls = true) (hb : b' ≤ b) : risesB b' ls = true := by
  cases ls with
  | nil => rfl
  | cons x r =>
    obtain ⟨h1, h2, h3⟩ := rises_cons.1 h
    exact rises_cons.2 ⟨by omega, h2, h3⟩
theorem net_cons (l : Ln) (r : List Ln) : net (l :: r) = l.qty * l.price + net r := by simp [net]
theorem net_bound {ls : List Ln} (h : ∀ l ∈ ls, lnB l = true) : 0 ≤ net ls ∧ net ls ≤ 10000000000000 * ls.length := by
  induction ls with
  | nil => simp [net]
  | cons l r ih =>
    obtain ⟨i1, i2⟩ := ih fun x hx => h x (List.mem_cons_of_mem _ hx)
    obtain ⟨_, ⟨p1, p2⟩, ⟨q1, q2⟩, _⟩ := lnB_iff.1 (h l (List.mem_cons_self ..))
    rw [net_cons]
    have h1 : 0 ≤ l.qty * l.price := Int.mul_nonneg (by omega) p1
    have h2 : l.qty * l.price ≤ 100000 * 100000000 := Int.mul_le_mul q2 p2 p1 (by omega)
    simp only [List.length_cons]
    omega
theorem tax_bound {n t : Int} (hn : 0 ≤ n) (h0 : 0 ≤ t) (h1 : t ≤ 5000) : 0 ≤ taxOf n t ∧ taxOf n t ≤ n := by
  unfold taxOf
  have h2 : 0 ≤ n * t := Int.mul_nonneg hn h0
  have h3 : n * t ≤ n * 5000 := Int.mul_le_mul_of_nonneg_left h1 hn
  omega
/-- What makes 'more' right. -/
def MoreOk (item price q : Int) (ls : List Ln) : Prop := 0 ≤ item ∧ item ≤ 65535 ∧ 0 ≤ price ∧ price ≤ 100000000 ∧ (∀ l ∈ ls, l.item = item → l.shipped = 0 ∧ l.qty + q ≤ 100000 ∧ 0 ≤ l.qty + q) ∧ ((∀ l ∈ ls, l.item ≠ item) → 1 ≤ q ∧ q ≤ 100000)
theorem more_rises {item price q b : Int} {ls : List Ln} (h : risesB b ls = true) (hb : b < item) (ho : MoreOk item price q ls) : risesB b (more item price q ls) = true := by
  induction ls generalizing b with
  | nil =>
    obtain ⟨h1, h2, h3, h4, _, h6⟩ := ho
    have := h6 (fun l hl => by cases hl)
    exact rises_cons.2 ⟨hb, lnB_iff.2 ⟨⟨h1, h2⟩, ⟨h3, h4⟩, this, by dsimp only; omega⟩, rfl⟩
  | cons l r ih =>
    obtain ⟨r1, r2, r3⟩ := rises_cons.1 h
    obtain ⟨h1, h2, h3, h4, h5, h6⟩ := ho
    unfold more
    by_cases hlt : item < l.item
    · rw [if_pos hlt]
      have hn : ∀ x ∈ l :: r, x.item ≠ item := by
        intro x hx
        rcases List.mem_cons.1 hx with rfl | hx
        · omega
        · have := (rises_mem r3 x hx).2; omega
      have hq := h6 hn
      exact rises_cons.2 ⟨hb, lnB_iff.2 ⟨⟨h1, h2⟩, ⟨h3, h4⟩, hq, by dsimp only; omega⟩, rises_cons.2 ⟨hlt, r2, r3⟩⟩
    · rw [if_neg hlt]
      by_cases heq : l.item = item
      · rw [if_pos heq]
        obtain ⟨k1, k2, k3⟩ := h5 l (List.mem_cons_self ..) heq
        obtain ⟨m1, m2, m3, m4⟩ := lnB_iff.1 r2
        by_cases hq : 0 < l.qty + q
        · rw [if_pos hq]
          exact rises_cons.2 ⟨r1, lnB_iff.2 ⟨m1, m2, ⟨by dsimp only; omega, k2⟩, by dsimp only; omega⟩, r3⟩
        · rw [if_neg hq]
          exact rises_weak r3 (by omega)
      · rw [if_neg heq]
        refine rises_cons.2 ⟨r1, r2, ih r3 (by omega) ⟨h1, h2, h3, h4, fun x hx => h5 x (List.mem_cons_of_mem _ hx), fun hn => h6 ?_⟩⟩
        intro x hx
        rcases List.mem_cons.1 hx with rfl | hx
        · exact heq
        · exact hn x hx
theorem more_len (item price q : Int) (ls : List Ln) : (more item price q ls).length ≤ ls.length + 1 ∧ ((∃ l ∈ ls, l.item = item) → (∀ b, risesB b ls = true → (more item price q ls).length ≤ ls.length)) := by
  induction ls with
  | nil => simp [more]
  | cons l r ih =>
    unfold more
    by_cases hlt : item < l.item
    · rw [if_pos hlt]
      refine ⟨by simp, fun ⟨x, hx, he⟩ b hr => ?_⟩
      obtain ⟨_, _, r3⟩ := rises_cons.1 hr
      rcases List.mem_cons.1 hx with rfl | hx
      · omega
      · have := (rises_mem r3 x hx).2; omega
    · rw [if_neg hlt]
      by_cases heq : l.item = item
      · rw [if_pos heq]
        split <;> exact ⟨by simp only [List.length_cons]; omega, fun _ _ _ => by simp only [List.length_cons]; omega⟩
      · rw [if_neg heq]
        refine ⟨by simp only [List.length_cons]; omega, fun ⟨x, hx, he⟩ b hr => ?_⟩
        obtain ⟨_, _, r3⟩ := rises_cons.1 hr
        simp only [List.length_cons]
        rcases List.mem_cons.1 hx with rfl | hx
        · exact absurd he heq
        · have := ih.2 ⟨x, hx, he⟩ _ r3; omega
theorem more_none {item price q : Int} {ls : List Ln} (h : noneB ls = true) : noneB (more item price q ls) = true := by
  induction ls with
  | nil => simp [more, noneB]
  | cons l r ih =>
    simp only [noneB, List.all_cons, and_t, decide_eq_true_eq] at h
    unfold more
    split
    · simp only [noneB, List.all_cons, and_t, decide_eq_true_eq]; exact ⟨trivial, h.1, h.2⟩
    · split
      · split
        · simp only [noneB, List.all_cons, and_t, decide_eq_true_eq]; exact h
        · exact h.2
      · simp only [noneB, List.all_cons, and_t, decide_eq_true_eq]; exact ⟨h.1, ih h.2⟩
theorem ship_rises {item q b : Int} {ls : List Ln} (h : risesB b ls = true) (hq : ∀ l ∈ ls, l.item = item → 0 ≤ q ∧ l.shipped + q ≤ l.qty) : risesB b (shipL item q ls) = true ∧ net (shipL item q ls) = net ls ∧ (shipL item q ls).length = ls.length := by
  induction ls generalizing b with
  | nil => exact ⟨rfl, rfl, rfl⟩
  | cons l r ih =>
    obtain ⟨r1, r2, r3⟩ := rises_cons.1 h
    obtain ⟨i1, i2, i3⟩ := ih r3 fun x hx => hq x (List.mem_cons_of_mem _ hx)
    have e : shipL item q (l :: r) = (if l.item = item then ⟨l.item, l.price, l.qty, l.shipped + q⟩ else l) :: shipL item q r := rfl
    rw [e]
    by_cases heq : l.item = item
    · rw [if_pos heq]
      have := hq l (List.mem_cons_self ..) heq
      obtain ⟨m1, m2, m3, m4⟩ := lnB_iff.1 r2
      refine ⟨rises_cons.2 ⟨r1, lnB_iff.2 ⟨m1, m2, m3, by dsimp only; omega⟩, i1⟩, by rw [net_cons, net_cons, i2], by simp [i3]⟩
    · rw [if_neg heq]
      exact ⟨rises_cons.2 ⟨r1, r2, i1⟩, by rw [net_cons, net_cons, i2], by simp [i3]⟩
theorem clear_rises {b : Int} {ls : List Ln} (h : risesB b ls = true) : risesB b (clearL ls) = true ∧ net (clearL ls) = net ls ∧ (clearL ls).length = ls.length ∧ allB (clearL ls) = true := by
  induction ls generalizing b with
  | nil => exact ⟨rfl, rfl, rfl, rfl⟩
  | cons l r ih =>
    obtain ⟨r1, r2, r3⟩ := rises_cons.1 h
    obtain ⟨i1, i2, i3, i4⟩ := ih r3
    have e : clearL (l :: r) = ⟨l.item, l.price, l.qty, l.qty⟩ :: clearL r := rfl
    rw [e]
    obtain ⟨m1, m2, m3, m4⟩ := lnB_iff.1 r2
    refine ⟨rises_cons.2 ⟨r1, lnB_iff.2 ⟨m1, m2, m3, by dsimp only; omega⟩, i1⟩, by rw [net_cons, net_cons, i2], by simp [i3], ?_⟩
    simp only [allB, List.all_cons, and_t, decide_eq_true_eq]
    exact ⟨trivial, i4⟩
structure VOk (s : St) : Prop where
  order : 1 ≤ s.order ∧ s.order ≤ 1099511627776
  status : 0 ≤ s.status ∧ s.status ≤ 5
  cur : 0 ≤ s.cur ∧ s.cur ≤ 3
  tax : 0 ≤ s.tax ∧ s.tax ≤ 5000
  len : s.lines.length ≤ 16
  rises : risesB (-1) s.lines = true
  refunded : 0 ≤ s.refunded ∧ s.refunded ≤ s.paid
  events : 0 ≤ s.events ∧ s.events ≤ 1099511627776
  refused : 0 ≤ s.refused ∧ s.refused ≤ s.events
  stamp : 0 ≤ s.stamp ∧ s.stamp ≤ 1099511627776
  named : namedB s.who = true
  paid : s.paid ≤ due s
  prior : priorB s = true
  stands : standsB s (standsAt s) = true
theorem valid_iff {s : St} : validB s = true ↔ VOk s := by
  simp only [validB, boundedB, and_t, wi_iff, decide_eq_true_eq, linedB]
  constructor
  · rintro ⟨⟨⟨⟨⟨⟨⟨⟨⟨⟨⟨⟨h1, h2⟩, h3⟩, h4⟩, h5, h6⟩, h7⟩, h8⟩, h9⟩, h10⟩, h11⟩, h12⟩, h13⟩, h14⟩
    exact ⟨h1, h2, h3, h4, h5, h6, h7, h8, h9, h10, h11, h12, h13, h14⟩
  · rintro ⟨h1, h2, h3, h4, h5, h6, h7, h8, h9, h10, h11, h12, h13, h14⟩
    exact ⟨⟨⟨⟨⟨⟨⟨⟨⟨⟨⟨⟨h1, h2⟩, h3⟩, h4⟩, h5, h6⟩, h7⟩, h8⟩, h9⟩, h10⟩, h11⟩, h12⟩, h13⟩, h14⟩
structure EOk (e : Ev) : Prop where
  kind : 1 ≤ e.kind ∧ e.kind ≤ 10
  order : 1 ≤ e.order ∧ e.order ≤ 1099511627776
  item : 0 ≤ e.item ∧ e.item ≤ 65535
  qty : 0 ≤ e.qty ∧ e.qty ≤ 10000
  price : 0 ≤ e.price ∧ e.price ≤ 100000000
  cur : 0 ≤ e.cur ∧ e.cur ≤ 3
  tax : 0 ≤ e.tax ∧ e.tax ≤ 5000
  named : namedB e.who = true
  stamp : 0 ≤ e.stamp ∧ e.stamp ≤ 1099511627776
  note : e.note.size ≤ 120
theorem event_iff {e : Ev} : check5 e = 0 ↔ EOk e := by
  unfold check5
  constructor
  · intro h
    split at h
    · cases h
    split at h
    · cases h
    split at h
    · rename_i h1 h2 h3
      simp only [and_t, wi_iff] at h3
      obtain ⟨⟨⟨⟨⟨⟨⟨a1, a2⟩, a3⟩, a4⟩, a5⟩, a6⟩, a7⟩, a8⟩ := h3
      exact ⟨by omega, a1, a2, a3, a4, a5, a6, by simp only [namedB, and_t, decide_eq_true_eq]; exact ⟨by omega, a7⟩, a8, by omega⟩
    · cases h
  · rintro ⟨h1, h2, h3, h4, h5, h6, h7, h8, h9, h10⟩
    simp only [namedB, and_t, decide_eq_true_eq] at h8
    rw [if_neg (by omega), if_neg (by omega), if_pos]
    simp only [and_t, wi_iff]
    exact ⟨⟨⟨⟨⟨⟨⟨h2, h3⟩, h4⟩, h5⟩, h6⟩, h7⟩, h8.2⟩, h9⟩
theorem VOk.lines_ok {s : St} (h : VOk s) : ∀ l ∈ s.lines, lnB l = true := fun l hl => (rises_mem h.rises l hl).1
theorem VOk.due_pos {s : St} (h : VOk s) : 0 ≤ net s.lines ∧ 0 ≤ due s := by
  have h1 := net_bound h.lines_ok
  have h2 := tax_bound h1.1 h.tax.1 h.tax.2
  unfold due
  omega
theorem lineOf_some {ls : List Ln} {item : Int} {l : Ln} {b : Int} (h : lineOf ls item = some l) (hr : risesB b ls = true) : l ∈ ls ∧ l.item = item ∧ ∀ x ∈ ls, x.item = item → x = l := by
  have h1 : l ∈ ls := List.mem_of_find?_eq_some h
  have h2 : l.item = item := by have := List.find?_some h; simpa using this
  refine ⟨h1, h2, ?_⟩
  clear h
  induction ls generalizing b with
  | nil => cases h1
  | cons y r ih =>
    obtain ⟨r1, r2, r3⟩ := rises_cons.1 hr
    intro x hx hxi
    rcases List.mem_cons.1 hx with hx2 | hx2
    · rcases List.mem_cons.1 h1 with h3 | h3
      · rw [hx2, h3]
      · have := (rises_mem r3 l h3).2; subst hx2; omega
    · rcases List.mem_cons.1 h1 with h3 | h3
      · have := (rises_mem r3 x hx2).2; subst h3; omega
      · exact ih r3 h3 x hx2 hxi
theorem lineOf_none {ls : List Ln} {item : Int} (h : lineOf ls item = none) : ∀ x ∈ ls, x.item ≠ item := by
  intro x hx
  have := List.find?_eq_none.1 h x hx
  simpa using this
theorem bump_ok {s : St} {e : Ev} (hs : VOk s) (he : EOk e) : 0 ≤ (bump s e).stamp ∧ (bump s e).stamp ≤ 1099511627776 ∧ namedB (bump s e).who = true := by
  unfold bump
  dsimp only
  have h1 := hs.stamp
  have h2 := he.stamp
  refine ⟨by split <;> omega, by split <;> omega, ?_⟩
  split
  · exact hs.named
  · exact he.named
/-- What 'Fine' says. -/
structure Fine (s : St) (e : Ev) : Prop where
  valid : VOk s
  event : EOk e
  events : s.events ≠ 1099511627776
  own : e.order = s.order
  use : useB s e.kind = true
  qty : (e.kind = 2 ∨ e.kind = 6 ∨ e.kind = 4) → e.qty ≠ 0
  price : (e.kind = 3 ∨ e.kind = 7) → e.price ≠ 0
  there : (e.kind = 6 ∨ e.kind = 4) → ∃ l, lineOf s.lines e.item = some l
  room : e.kind = 2 → lineOf s.lines e.item = none → s.lines.length ≠ 16
  add : e.kind = 2 → ∀ l, lineOf s.lines e.item = some l → l.price = e.price ∧ l.qty + e.qty ≤ 100000
  drop : e.kind = 6 → ∀ l, lineOf s.lines e.item = some l → e.qty ≤ l.qty
  ship : e.kind = 4 → ∀ l, lineOf s.lines e.item = some l → e.qty ≤ l.qty - l.shipped
  pay : e.kind = 3 → s.paid + e.price ≤ due s
  refund : e.kind = 7 → s.refunded + e.price ≤ s.paid
theorem fine_of {s : St} {e : Ev} (h : judge s e = 0) : Fine s e := by
  unfold judge at h
  split at h
  · cases h
  rename_i h1
  split at h
  · cases h
  rename_i h2
  split at h
  · cases h
  rename_i h3
  split at h
  · cases h
  rename_i h4
  split at h
  · cases h
  rename_i h5
  split at h
  · cases h
  rename_i h6
  have hv : VOk s := valid_iff.1 (by simpa using fun hc => h1 (.inl hc))
  have he : EOk e := event_iff.1 (Decidable.byContradiction fun hc => h1 (.inr (.inl hc)))
  have hev : s.events ≠ 1099511627776 := fun hc => h1 (.inr (.inr hc))
  have hu : useB s e.kind = true := by simpa using h5
  have ho : e.order = s.order := Decidable.byContradiction fun hc => h2 hc
  cases hl : lineOf s.lines e.item with
  | none =>
    rw [hl] at h
    dsimp only at h
    split at h
    · cases h
    rename_i g1
    split at h
    · cases h
    rename_i g2
    split at h
    · cases h
    rename_i g3
    refine { valid := hv, event := he, events := hev, own := ho, use := hu, qty := fun hk hq => h6 (.inl ⟨hk, hq⟩), price := fun hk hq => h6 (.inr ⟨hk, hq⟩), there := fun hk => absurd hk g1, room := fun hk _ hc => g2 ⟨hk, hc⟩, add := ?_, drop := ?_, ship := ?_, pay := fun hk => ?_, refund := fun hk => ?_ }
    · intro _ l hc; rw [hl] at hc; cases hc
    · intro _ l hc; rw [hl] at hc; cases hc
    · intro _ l hc; rw [hl] at hc; cases hc
    · omega
    · omega
  | some l =>
    rw [hl] at h
    dsimp only at h
    split at h
    · cases h
    rename_i g1
    split at h
    · cases h
    rename_i g2
    split at h
    · cases h
    rename_i g3
    refine { valid := hv, event := he, events := hev, own := ho, use := hu, qty := fun hk hq => h6 (.inl ⟨hk, hq⟩), price := fun hk hq => h6 (.inr ⟨hk, hq⟩), there := fun hk => ⟨l, hl⟩, room := ?_, add := ?_, drop := ?_, ship := ?_, pay := fun hk => ?_, refund := fun hk => ?_ }
    · intro _ hc; rw [hl] at hc; cases hc
    · intro hk l' hc
      rw [hl] at hc
      injection hc with hc
      subst hc
      exact ⟨Decidable.byContradiction fun hn => g1 ⟨hk, hn⟩, by omega⟩
    · intro hk l' hc
      rw [hl] at hc
      injection hc with hc
      subst hc
      omega
    · intro hk l' hc
      rw [hl] at hc
      injection hc with hc
      subst hc
      omega
    · omega
    · omega
theorem due_bump (s : St) (e : Ev) : due (bump s e) = due s := rfl
theorem full_bump (s : St) (e : Ev) : fullB (bump s e) = fullB s := rfl
theorem none_zero {ls : List Ln} (h : noneB ls = true) : ∀ l ∈ ls, l.shipped = 0 := fun l hl => by
  have := List.all_eq_true.1 h l hl
  simpa using this
/-- Lines of which none is shipped, and that are worth something, are not all shipped. -/
theorem none_not_all {ls : List Ln} {b : Int} (hr : risesB b ls = true) (h : noneB ls = true) (hn : net ls ≠ 0) : allB ls = false := by
  cases ls with
  | nil => exact absurd rfl hn
  | cons l r =>
    obtain ⟨_, h2, _⟩ := rises_cons.1 hr
    obtain ⟨_, _, ⟨q1, _⟩, _⟩ := lnB_iff.1 h2
    have h0 := none_zero h l (List.mem_cons_self ..)
    simp only [allB, List.all_cons, Bool.and_eq_false_iff]
    left
    simp; omega
theorem stands_open {s : St} (h : VOk s) (hs : s.status = 1) : noneB s.lines = true ∧ fullB s = false ∧ s.refunded = 0 ∧ s.prior = 0 := by
  have h1 := h.stands
  have h2 := h.prior
  unfold standsB standsAt at h1
  unfold priorB at h2
  rw [if_neg (by omega)] at h2
  rw [hs] at h1
  simp at h1 h2
  exact ⟨h1.1.1, h1.1.2, h1.2, h2⟩
theorem stands_paid {s : St} (h : VOk s) (hs : s.status = 3) : fullB s = true ∧ allB s.lines = false ∧ s.prior = 0 := by
  have h1 := h.stands
  have h2 := h.prior
  unfold standsB standsAt at h1
  unfold priorB at h2
  rw [if_neg (by omega)] at h2
  rw [hs] at h1
  simp at h1 h2
  exact ⟨h1.1, h1.2, h2⟩
theorem stands_none {s : St} (h : VOk s) (hs : s.status = 0) : s.lines = [] ∧ s.cur = 0 ∧ s.tax = 0 ∧ s.events = s.refused ∧ s.stamp = 0 ∧ s.who.size = 0 ∧ s.prior = 0 ∧ s.paid = 0 ∧ s.refunded = 0 := by
  have h1 := h.stands
  have h2 := h.prior
  unfold standsB standsAt at h1
  unfold priorB at h2
  rw [if_neg (by omega)] at h2
  rw [hs] at h1
  simp at h1 h2
  have h3 := h.paid
  have h4 := h.refunded
  unfold due at h3
  rw [h1.1.1] at h3
  simp [net, taxOf] at h3
  exact ⟨h1.1.1, h1.1.2.1, h1.1.2.2.1, h1.1.2.2.2.1, h1.1.2.2.2.2, by rw [h1.2]; rfl, h2, by omega, by omega⟩
theorem stands_held {s : St} (h : VOk s) (hs : s.status = 2) : (s.prior = 1 ∧ noneB s.lines = true ∧ fullB s = false ∧ s.refunded = 0) ∨ (s.prior = 3 ∧ fullB s = true ∧ allB s.lines = false) := by
  have h1 := h.stands
  have h2 := h.prior
  unfold standsB standsAt at h1
  unfold priorB at h2
  rw [if_pos hs] at h2 h1
  simp at h2
  rcases h2 with h2 | h2
  · rw [h2] at h1
    simp at h1
    exact .inl ⟨h2, h1.1.1, h1.1.2, h1.2⟩
  · rw [h2] at h1
    simp at h1
    exact .inr ⟨h2, h1.1, h1.2⟩
theorem valid_rule {s : St} {e : Ev} (h : Fine s e) : VOk (rule (bump s e) e) := by
  have hv := h.valid
  have he := h.event
  obtain ⟨b1, b2, b3⟩ := bump_ok hv he
  have hev : 0 ≤ s.events + 1 ∧ s.events + 1 ≤ 1099511627776 := by have := hv.events; have := h.events; omega
  have hrf : 0 ≤ s.refused ∧ s.refused ≤ s.events + 1 := by have := hv.refused; omega
  have hu := h.use
  have hk := he.kind
  unfold rule
  by_cases k1 : e.kind = 1
  · rw [if_pos k1]
    unfold useB at hu
    rw [if_pos k1] at hu
    obtain ⟨z1, z2, z3, z4, z5, z6, z7, z8, z9⟩ := stands_none hv (by simpa using hu)
    refine ⟨hv.order, by dsimp only; omega, he.cur, he.tax, by show s.lines.length ≤ 16; exact hv.len, hv.rises, hv.refunded, hev, hrf, ⟨b1, b2⟩, b3, ?_, ?_, ?_⟩
    · show s.paid ≤ net s.lines + taxOf (net s.lines) e.tax
      rw [z1, z8]; simp [net, taxOf]
    · simp [priorB, bump, z7]
    · show standsB _ 1 = true
      simp [standsB, bump, z1, z8, z9, noneB, fullB]
  rw [if_neg k1]
  by_cases k2 : e.kind = 2
  · rw [if_pos k2]
    unfold useB at hu
    rw [if_neg k1, if_pos (.inl k2)] at hu
    simp at hu
    obtain ⟨z1, z2, z3, z4⟩ := stands_open hv hu.1
    have hq := h.qty (.inl k2)
    have hmo : MoreOk e.item e.price e.qty s.lines := by
      refine ⟨he.item.1, he.item.2, he.price.1, he.price.2, fun l hl hi => ?_, fun _ => ?_⟩
      · have h0 := none_zero z1 l hl
        cases hlo : lineOf s.lines e.item with
        | none => exact absurd hi (lineOf_none hlo l hl)
        | some l' =>
          have hu := (lineOf_some hlo hv.rises).2.2 l hl hi
          subst hu
          have := h.add k2 l hlo
          have := lnB_iff.1 (hv.lines_ok l hl)
          have := he.qty
          exact ⟨h0, by omega, by omega⟩
      · have := he.qty; omega
    have hr := more_rises hv.rises (by have := he.item; omega) hmo
    have hlen : (more e.item e.price e.qty s.lines).length ≤ 16 := by
      have hm := more_len e.item e.price e.qty s.lines
      have h16 := hv.len
      cases hlo : lineOf s.lines e.item with
      | none => have := h.room k2 hlo; omega
      | some l' =>
        have hu := lineOf_some hlo hv.rises
        have := hm.2 ⟨l', hu.1, hu.2.1⟩ _ hv.rises
        omega
    have hnet := net_bound fun l hl => (rises_mem hr l hl).1
    have htax := tax_bound hnet.1 hv.tax.1 hv.tax.2
    refine ⟨hv.order, hv.status, hv.cur, hv.tax, hlen, hr, hv.refunded, hev, hrf, ⟨b1, b2⟩, b3, ?_, ?_, ?_⟩
    · show s.paid ≤ net (more e.item e.price e.qty s.lines) + taxOf (net (more e.item e.price e.qty s.lines)) s.tax
      omega
    · simp [priorB, bump, hu.1, z4]
    · show standsB _ (if s.status = 2 then s.prior else s.status) = true
      rw [if_neg (by omega), hu.1]
      simp [standsB, bump, more_none z1, z3, fullB, hu.2]
  rw [if_neg k2]
  by_cases k6 : e.kind = 6
  · rw [if_pos k6]
    unfold useB at hu
    rw [if_neg k1, if_pos (.inr k6)] at hu
    simp at hu
    obtain ⟨z1, z2, z3, z4⟩ := stands_open hv hu.1
    obtain ⟨l0, hl0⟩ := h.there (.inl k6)
    have hd := h.drop k6 l0 hl0
    obtain ⟨m1, m2, m3⟩ := lineOf_some hl0 hv.rises
    have hmo : MoreOk e.item e.price (-e.qty) s.lines := by
      refine ⟨he.item.1, he.item.2, he.price.1, he.price.2, fun l hl hi => ?_, fun hn => absurd m2 (hn l0 m1)⟩
      have := m3 l hl hi
      subst this
      have := lnB_iff.1 (hv.lines_ok l hl)
      have := he.qty
      exact ⟨none_zero z1 l hl, by omega, by omega⟩
    have hr := more_rises hv.rises (by have := he.item; omega) hmo
    have hlen := (more_len e.item e.price (-e.qty) s.lines).2 ⟨l0, m1, m2⟩ _ hv.rises
    have hnet := net_bound fun l hl => (rises_mem hr l hl).1
    have htax := tax_bound hnet.1 hv.tax.1 hv.tax.2
    refine ⟨hv.order, hv.status, hv.cur, hv.tax, Nat.le_trans hlen hv.len, hr, hv.refunded, hev, hrf, ⟨b1, b2⟩, b3, ?_, ?_, ?_⟩
    · show s.paid ≤ net (more e.item e.price (-e.qty) s.lines) + taxOf (net (more e.item e.price (-e.qty) s.lines)) s.tax
      omega
    · simp [priorB, bump, hu.1, z4]
    · show standsB _ (if s.status = 2 then s.prior else s.status) = true
      rw [if_neg (by omega), hu.1]
      simp [standsB, bump, more_none z1, z3, fullB, hu.2]
  rw [if_neg k6]
  by_cases k3 : e.kind = 3
  · rw [if_pos k3]
    unfold useB at hu
    rw [if_neg k1, if_neg (by omega), if_pos k3] at hu
    simp at hu
    obtain ⟨z1, z2, z3, z4⟩ := stands_open hv hu
    have hp := h.pay k3
    have hpr := h.price (.inl k3)
    have hpp := he.price
    have hre := hv.refunded
    by_cases hd : s.paid + e.price = due s
    · rw [if_pos (show (bump s e).paid + e.price = due (bump s e) from hd)]
      have hn : net s.lines ≠ 0 := by
        intro h0
        have : due s = 0 := by unfold due; rw [h0]; simp [taxOf]
        omega
      have ha := none_not_all hv.rises z1 hn
      refine ⟨hv.order, by dsimp only; omega, hv.cur, hv.tax, hv.len, hv.rises, ?_, hev, hrf, ⟨b1, b2⟩, b3, hp, ?_, ?_⟩
      · show 0 ≤ s.refunded ∧ s.refunded ≤ s.paid + e.price; omega
      · simp [priorB, bump, z4]
      · show (decide (s.paid + e.price = due s ∧ 0 < s.paid + e.price) && !allB s.lines) = true
        rw [ha]
        simp only [Bool.not_false, Bool.and_true, decide_eq_true_eq]
        omega
    · rw [if_neg (show ¬ (bump s e).paid + e.price = due (bump s e) from hd)]
      refine ⟨hv.order, hv.status, hv.cur, hv.tax, hv.len, hv.rises, ?_, hev, hrf, ⟨b1, b2⟩, b3, hp, ?_, ?_⟩
      · show 0 ≤ s.refunded ∧ s.refunded ≤ s.paid + e.price; omega
      · simp [priorB, bump, hu, z4]
      · show standsB _ (if s.status = 2 then s.prior else s.status) = true
        rw [if_neg (by omega), hu]
        show (noneB s.lines && !decide (s.paid + e.price = due s ∧ 0 < s.paid + e.price) && decide (s.refunded = 0)) = true
        simp [z1, z3, hd]
  rw [if_neg k3]
  by_cases k4 : e.kind = 4
  · rw [if_pos k4]
    unfold useB at hu
    rw [if_neg k1, if_neg (by omega), if_neg k3, if_pos (.inl k4)] at hu
    simp at hu
    obtain ⟨z1, z2, z3⟩ := stands_paid hv hu
    obtain ⟨l0, hl0⟩ := h.there (.inr k4)
    have hs := h.ship k4 l0 hl0
    obtain ⟨m1, m2, m3⟩ := lineOf_some hl0 hv.rises
    have hqq := he.qty
    obtain ⟨g1, g2, g3⟩ := ship_rises (item := e.item) (q := e.qty) hv.rises fun l hl hi => by have := m3 l hl hi; subst this; omega
    have hf : decide (s.paid = net (shipL e.item e.qty s.lines) + taxOf (net (shipL e.item e.qty s.lines)) s.tax ∧ 0 < s.paid) = true := by rw [g2]; exact z1
    have hpd : s.paid ≤ net (shipL e.item e.qty s.lines) + taxOf (net (shipL e.item e.qty s.lines)) s.tax := by rw [g2]; exact hv.paid
    by_cases ha : allB (shipL e.item e.qty s.lines) = true
    · rw [if_pos (show allB (shipL e.item e.qty (bump s e).lines) = true from ha)]
      refine ⟨hv.order, by dsimp only; omega, hv.cur, hv.tax, by show (shipL e.item e.qty s.lines).length ≤ 16; rw [g3]; exact hv.len, g1, hv.refunded, hev, hrf, ⟨b1, b2⟩, b3, hpd, ?_, ?_⟩
      · simp [priorB, bump, z3]
      · show (decide (s.paid = net (shipL e.item e.qty s.lines) + taxOf (net (shipL e.item e.qty s.lines)) s.tax ∧ 0 < s.paid) && allB (shipL e.item e.qty s.lines)) = true
        rw [hf, ha]; rfl
    · rw [if_neg (show ¬ allB (shipL e.item e.qty (bump s e).lines) = true from ha)]
      refine ⟨hv.order, hv.status, hv.cur, hv.tax, by show (shipL e.item e.qty s.lines).length ≤ 16; rw [g3]; exact hv.len, g1, hv.refunded, hev, hrf, ⟨b1, b2⟩, b3, hpd, ?_, ?_⟩
      · simp [priorB, bump, hu, z3]
      · show standsB _ (if s.status = 2 then s.prior else s.status) = true
        rw [if_neg (by omega), hu]
        show (decide (s.paid = net (shipL e.item e.qty s.lines) + taxOf (net (shipL e.item e.qty s.lines)) s.tax ∧ 0 < s.paid) && !allB (shipL e.item e.qty s.lines)) = true
        rw [hf]; simpa using ha
  rw [if_neg k4]
  by_cases k10 : e.kind = 10
  · rw [if_pos k10]
    unfold useB at hu
    rw [if_neg k1, if_neg (by omega), if_neg k3, if_pos (.inr k10)] at hu
    simp at hu
    obtain ⟨z1, z2, z3⟩ := stands_paid hv hu
    obtain ⟨g1, g2, g3, g4⟩ := clear_rises hv.rises
    refine ⟨hv.order, by dsimp only; omega, hv.cur, hv.tax, by show (clearL s.lines).length ≤ 16; rw [g3]; exact hv.len, g1, hv.refunded, hev, hrf, ⟨b1, b2⟩, b3, ?_, ?_, ?_⟩
    · show s.paid ≤ net (clearL s.lines) + taxOf (net (clearL s.lines)) s.tax
      rw [g2]; exact hv.paid
    · simp [priorB, bump, z3]
    · show (decide (s.paid = net (clearL s.lines) + taxOf (net (clearL s.lines)) s.tax ∧ 0 < s.paid) && allB (clearL s.lines)) = true
      rw [g2, g4]
      have : decide (s.paid = net s.lines + taxOf (net s.lines) s.tax ∧ 0 < s.paid) = true := z1
      rw [this]; rfl
  rw [if_neg k10]
  by_cases k7 : e.kind = 7
  · rw [if_pos k7]
    have hr := h.refund k7
    have hpp := he.price
    have hre := hv.refunded
    unfold useB at hu
    rw [if_neg k1, if_neg (by omega), if_neg k3, if_neg (by omega), if_pos k7] at hu
    simp at hu
    refine ⟨hv.order, hv.status, hv.cur, hv.tax, hv.len, hv.rises, ?_, hev, hrf, ⟨b1, b2⟩, b3, hv.paid, hv.prior, ?_⟩
    · show 0 ≤ s.refunded + e.price ∧ s.refunded + e.price ≤ s.paid; omega
    · have hst := hv.stands
      have e1 : standsAt s = s.status := by unfold standsAt; rw [if_neg (by omega)]
      rw [e1] at hst
      show standsB _ (if s.status = 2 then s.prior else s.status) = true
      rw [if_neg (by omega)]
      rcases hu with hu | hu | hu <;> rw [hu] at hst ⊢ <;> exact hst
  rw [if_neg k7]
  by_cases k5 : e.kind = 5
  · rw [if_pos k5]
    have hn : noneB s.lines = true := by
      unfold useB at hu
      rw [if_neg k1, if_neg (by omega), if_neg k3, if_neg (by omega), if_neg k7, if_pos k5] at hu
      simp at hu
      rcases hu with hu | hu
      · exact (stands_open hv hu).1
      · exact hu.2
    refine ⟨hv.order, by dsimp only; omega, hv.cur, hv.tax, hv.len, hv.rises, hv.refunded, hev, hrf, ⟨b1, b2⟩, b3, hv.paid, by simp [priorB], ?_⟩
    show noneB s.lines = true
    exact hn
  rw [if_neg k5]
  by_cases k8 : e.kind = 8
  · rw [if_pos k8]
    unfold useB at hu
    rw [if_neg k1, if_neg (by omega), if_neg k3, if_neg (by omega), if_neg k7, if_neg k5, if_pos k8] at hu
    simp at hu
    have hst := hv.stands
    have e1 : standsAt s = s.status := by unfold standsAt; rw [if_neg (by omega)]
    rw [e1] at hst
    refine ⟨hv.order, by dsimp only; omega, hv.cur, hv.tax, hv.len, hv.rises, hv.refunded, hev, hrf, ⟨b1, b2⟩, b3, hv.paid, by simp [priorB, bump]; exact hu, ?_⟩
    show standsB _ s.status = true
    rcases hu with hu | hu <;> rw [hu] at hst ⊢ <;> exact hst
  rw [if_neg k8]
  have k9 : e.kind = 9 := by omega
  rw [if_pos k9]
  unfold useB at hu
  rw [if_neg k1, if_neg (by omega), if_neg k3, if_neg (by omega), if_neg k7, if_neg k5, if_neg k8] at hu
  simp at hu
  have hst := hv.stands
  have e1 : standsAt s = s.prior := by unfold standsAt; rw [if_pos hu.2]
  rw [e1] at hst
  have hp := stands_held hv hu.2
  refine ⟨hv.order, by dsimp only [bump]; omega, hv.cur, hv.tax, hv.len, hv.rises, hv.refunded, hev, hrf, ⟨b1, b2⟩, b3, hv.paid, ?_, ?_⟩
  · dsimp only [priorB, bump]; rw [if_neg (by omega)]; rfl
  · show standsB _ (if s.prior = 2 then 0 else s.prior) = true
    rw [if_neg (by omega)]
    rcases hp with hp | hp <;> rw [hp.1] at hst ⊢ <;> exact hst
theorem valid_apply {s : St} {e : Ev} (h : VOk s) : VOk (apply s e).1 := by
  unfold apply
  split
  · exact h
  rename_i h1
  split
  · have hev : s.events ≠ 1099511627776 := by
      intro hc
      refine h1 (.inl ?_)
      unfold judge
      rw [if_pos (.inr (.inr hc))]
    have h2 := h.events
    have h3 := h.refused
    have hne : s.status ≠ 0 ∨ True := .inr trivial
    refine ⟨h.order, h.status, h.cur, h.tax, h.len, h.rises, h.refunded, by dsimp only; omega, by dsimp only; omega, h.stamp, h.named, h.paid, h.prior, ?_⟩
    have hst := h.stands
    show standsB _ (standsAt s) = true
    unfold standsB at hst ⊢
    dsimp only
    split
    · rename_i h0
      rw [if_pos h0] at hst
      simp only [and_t, decide_eq_true_eq] at hst ⊢
      exact ⟨⟨hst.1.1, hst.1.2.1, hst.1.2.2.1, by omega, hst.1.2.2.2.2⟩, hst.2⟩
    · rename_i h0
      rw [if_neg h0] at hst
      exact hst
  · rename_i h2
    exact valid_rule (fine_of (by simpa using h2))
theorem valid_fold {s : St} (es : List Ev) (h : VOk s) : VOk (fold s es) := by
  unfold fold
  induction es generalizing s with
  | nil => exact h
  | cons e r ih => exact ih (valid_apply h)
end Go.Proofs.YtjomgppbialeoaaGreat
