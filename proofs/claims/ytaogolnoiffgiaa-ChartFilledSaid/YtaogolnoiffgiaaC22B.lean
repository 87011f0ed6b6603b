/- Memory words of this family: new blocks only; a slice that reads as a list of elements of k cells; a slice that the call owns. Plain lemmas, no program.
   Plain functions of chapter 9 (queues). No program.
   Plain functions of chapter 9 (queues): errors, the order. No program.
   Plain: the row under insertion. No program.
   Plain functions of chapter 9: when items are sent. No program.
   Plain: where an item is put by a search in the middle. No program.
   Plain functions of chapter 9: Put. No program. -/
import Derived.Deep.AppendLies
import Derived.Deep.Draws
import Derived.Lib.Hide
import Derived.WalkKit
import Derived.Test.YtaogolnoiffgiaaC22A

namespace Go.Sky
open Go.RowKit

/-- The world W is w with new blocks (and draws): nothing that w held has turned. -/
def New (w W : World) : Prop := Below w.heap.size w W

section
variable {w W W' : World}
theorem New.refl (w : World) : New w w := Below.refl _ _
theorem New.size (h : New w W) : w.heap.size ≤ W.heap.size := Below.size h
theorem New.trans (h : New w W) (k : New W W') : New w W' := Below.trans h (Below.mono k h.size)
theorem New.alloc (h : New w W) (o : Obj) : New w (W.alloc o) := Below.alloc h h.size o
theorem hn2of {o : Obj} (h : New (w.alloc o) W) : New w W := Below.trans (Below.alloc (Below.refl _ _) (Nat.le_refl _) o) (Below.mono h (by simp))
theorem New.drew (h : New w W) : New w W.drew := Below.drew h
theorem New.drewN (h : New w W) (n : Nat) : New w (W.drewN n) := ⟨h.os, h.tape, h.output, h.size, h.block⟩
theorem New.setCell (h : New w W) {p : Addr} (hp : w.heap.size ≤ p.block) (u : Value) : New w (W.setCell p u) := Below.setCell h hp u
theorem New.grown (h : New w W) {row : Option Nat} (hg : W.grownBy W' row) (hr : ∀ k, row = some k → w.heap.size ≤ k) : New w W' := Below.grown h hg h.size hr
theorem New.cells (h : New w W) : ∀ b o, b < w.heap.size → W.cell? ⟨b, o, none⟩ = w.cell? ⟨b, o, none⟩ := fun b o hb => Below.cell (p := ⟨b, o, none⟩) h hb
theorem New.marks (h : New w W) : ∀ b o, b < w.heap.size → W.frozen? ⟨b, o, none⟩ = w.frozen? ⟨b, o, none⟩ := fun b o hb => Below.frozen (p := ⟨b, o, none⟩) h hb
theorem New.cell (h : New w W) {b o : Nat} {u : Value} (hc : w.cell? ⟨b, o, none⟩ = some u) : W.cell? ⟨b, o, none⟩ = some u :=
  (h.cells b o (World.block_lt_of_cell? w ⟨b, o, none⟩ hc)).trans hc
theorem New.heap (h : New w W) {b : Nat} {o : Obj} (hb : w.heap[b]? = some o) : W.heap[b]? = some o :=
  (Below.block h b (Array.getElem?_eq_some_iff.1 hb).1).trans hb
/-- Below a number that is not above the first world's size. -/
theorem New.below (h : New w W) {B : Nat} (hB : B ≤ w.heap.size) : Below B w W := Below.mono h hB
theorem New.of_below {B : Nat} (h : Below B w W) (hB : w.heap.size ≤ B) : New w W := Below.mono h hB
end

/-- A slice with the address A and n elements reads as xs: element i lies in k cells. -/
def Rd {α : Type} (w : World) (k : Nat) (enc : α → List Value) (A : Option Addr) (n : Nat) (xs : List α) : Prop :=
  xs.length = n ∧ (0 < n → ∃ b o, A = some ⟨b, o, none⟩ ∧ b < w.heap.size ∧ ∀ i x, xs[i]? = some x → ∀ j u, (enc x)[j]? = some u → w.cell? ⟨b, o + i * k + j, none⟩ = some u)

section
variable {α : Type} {w W : World} {k n : Nat} {enc : α → List Value} {A : Option Addr} {xs : List α}
theorem Rd.len (h : Rd w k enc A n xs) : xs.length = n := h.1
theorem Rd.nil (w : World) (k : Nat) (enc : α → List Value) (A : Option Addr) : Rd w k enc A 0 [] := ⟨rfl, fun h => absurd h (by omega)⟩
theorem Rd.keep (h : Rd w k enc A n xs) (hw : New w W) : Rd W k enc A n xs :=
  ⟨h.1, fun hn => by
    obtain ⟨b, o, e, hb, hc⟩ := h.2 hn
    exact ⟨b, o, e, Nat.lt_of_lt_of_le hb hw.size, fun i x hx j u hu => (hw.cells _ _ hb).trans (hc i x hx j u hu)⟩⟩
theorem Rd.at_ (h : Rd w k enc A n xs) {i : Nat} (hi : i < n) :
    ∃ b o x, A = some ⟨b, o, none⟩ ∧ b < w.heap.size ∧ xs[i]? = some x ∧ ∀ j u, (enc x)[j]? = some u → w.cell? ⟨b, o + i * k + j, none⟩ = some u := by
  obtain ⟨b, o, e, hb, hc⟩ := h.2 (by omega)
  have hl : i < xs.length := by have := h.1; omega
  exact ⟨b, o, xs[i], e, hb, List.getElem?_eq_getElem hl, hc i _ (List.getElem?_eq_getElem hl)⟩
theorem Rd.take {m : Nat} (h : Rd w k enc A n xs) (hm : m ≤ n) : Rd w k enc A m (xs.take m) :=
  ⟨by rw [List.length_take, h.1]; omega, fun hn => by
    obtain ⟨b, o, e, hb, hc⟩ := h.2 (by omega)
    refine ⟨b, o, e, hb, fun i x hx => hc i x ?_⟩
    rw [List.getElem?_take] at hx
    split at hx
    · exact hx
    · cases hx⟩
theorem Rd.some_ (h : Rd w k enc A n xs) (hn : 0 < n) : ∃ b o, A = some ⟨b, o, none⟩ ∧ b < w.heap.size ∧ ∀ i x, xs[i]? = some x → ∀ j u, (enc x)[j]? = some u → w.cell? ⟨b, o + i * k + j, none⟩ = some u := h.2 hn
end

/-- The same slice, owned by the call: nil, or at the head of a block from 'base' on. -/
def Own {α : Type} (w : World) (base : Nat) (e : TypeId) (k : Nat) (enc : α → List Value) (A : Option Addr) (n cap : Nat) (xs : List α) : Prop :=
  xs.length = n ∧ (∀ x, (enc x).length = k) ∧ w.ownsRow base e k (.slice A n cap) n (xs.flatMap enc)

theorem flat_len {α : Type} {k : Nat} {enc : α → List Value} (hk : ∀ x, (enc x).length = k) (xs : List α) : (xs.flatMap enc).length = xs.length * k := by
  induction xs with
  | nil => simp
  | cons x xs ih => simp [ih, hk, Nat.add_mul]; omega

theorem flat_at {α : Type} {k : Nat} {enc : α → List Value} (hk : ∀ x, (enc x).length = k) : ∀ (xs : List α) (i : Nat) (x : α), xs[i]? = some x → ∀ j u, (enc x)[j]? = some u → (xs.flatMap enc)[i * k + j]? = some u := by
  intro xs
  induction xs with
  | nil => intro i x h; simp at h
  | cons y ys ih =>
    intro i x h j u hu
    have hj : j < k := by rw [← hk x]; exact (List.getElem?_eq_some_iff.1 hu).1
    cases i with
    | zero =>
      simp at h; subst h
      simp only [Nat.zero_mul, Nat.zero_add, List.flatMap_cons]
      rw [List.getElem?_append_left (by rw [hk]; exact hj)]
      exact hu
    | succ i =>
      simp at h
      rw [List.flatMap_cons, List.getElem?_append_right (by rw [hk, Nat.add_mul]; omega), hk]
      rw [show (i + 1) * k + j - k = i * k + j by rw [Nat.add_mul]; omega]
      exact ih i x h j u hu

section
variable {α : Type} {w W : World} {base e k n cap : Nat} {enc : α → List Value} {A : Option Addr} {xs : List α}
theorem Own.len (h : Own w base e k enc A n cap xs) : xs.length = n := h.1
theorem Own.nil (w : World) (base e k : Nat) {enc : α → List Value} (hk : ∀ x, (enc x).length = k) : Own w base e k enc none 0 0 [] := ⟨rfl, hk, World.ownsRow_nil _ _ _ _⟩
theorem Own.form (h : Own w base e k enc A n cap xs) : (A = none ∧ n = 0 ∧ cap = 0 ∧ xs = []) ∨ ∃ g, A = some ⟨g, 0, none⟩ ∧ base ≤ g ∧ g < w.heap.size ∧ n ≤ cap ∧ cap ≤ maxLen := by
  rcases h.2.2.2 with ⟨hv, h0⟩ | ⟨g, c, cur, hv, hb, hg, hn, hm, _⟩
  · left
    injection hv with h1 h2 h3
    exact ⟨h1, h2, h3, List.eq_nil_of_length_eq_zero (by rw [h.1]; exact h2)⟩
  · right
    injection hv with h1 h2 h3
    exact ⟨g, h1, hb, (Array.getElem?_eq_some_iff.1 hg).1, by omega, by omega⟩
theorem Own.le (h : Own w base e k enc A n cap xs) : n ≤ cap ∧ cap ≤ maxLen := by
  rcases h.form with ⟨_, h1, h2, _⟩ | ⟨g, _, _, _, h1, h2⟩
  · subst h1 h2; exact ⟨Nat.le_refl _, Nat.zero_le _⟩
  · exact ⟨h1, h2⟩
theorem Own.row (h : Own w base e k enc A n cap xs) : w.ownsRow base e k (.slice A n cap) n (xs.flatMap enc) := h.2.2
theorem Own.rd (h : Own w base e k enc A n cap xs) : Rd w k enc A n xs := by
  refine ⟨h.1, fun hn => ?_⟩
  rcases h.form with ⟨_, h1, _⟩ | ⟨g, hA, _, hlt, _⟩
  · omega
  · subst hA
    refine ⟨g, 0, rfl, hlt, fun i x hx j u hu => ?_⟩
    have hc := h.2.2.cells (g := g) rfl (i * k + j) u (flat_at h.2.1 xs i x hx j u hu)
    have ha : (⟨g, 0, none⟩ : Addr).add (i * k + j) = ⟨g, 0 + i * k + j, none⟩ := by
      unfold Addr.add
      split
      · rename_i h0
        rw [show 0 + i * k + j = 0 by omega]
      · simp
    rw [ha] at hc
    exact hc
theorem Own.kept {row : Option Nat} (h : Own w base e k enc A n cap xs) (hg : w.grownBy W row) (hne : A.map (·.block) = none ∨ A.map (·.block) ≠ row) : Own W base e k enc A n cap xs :=
  ⟨h.1, h.2.1, h.2.2.kept hg (by cases A <;> simp_all [Value.ownBlock])⟩
theorem Own.alloc (h : Own w base e k enc A n cap xs) (o : Obj) : Own (w.alloc o) base e k enc A n cap xs := ⟨h.1, h.2.1, h.2.2.alloc o⟩
theorem Own.drew (h : Own w base e k enc A n cap xs) : Own w.drew base e k enc A n cap xs := ⟨h.1, h.2.1, h.2.2⟩
theorem Own.drewN (h : Own w base e k enc A n cap xs) (m : Nat) : Own (w.drewN m) base e k enc A n cap xs := ⟨h.1, h.2.1, h.2.2⟩
theorem Own.keep (h : Own w base e k enc A n cap xs) (hw : New w W) : Own W base e k enc A n cap xs :=
  h.kept (row := none) ⟨hw.os, hw.tape, hw.output, hw.size, fun b hb _ => hw.block b hb⟩ (by cases A <;> simp)
theorem Own.base_le {base' : Nat} (h : Own w base e k enc A n cap xs) (hb : base' ≤ base) : Own w base' e k enc A n cap xs := by
  refine ⟨h.1, h.2.1, h.2.2.1, ?_⟩
  rcases h.2.2.2 with h0 | ⟨g, c, cur, hv, hg, r⟩
  · exact .inl h0
  · exact .inr ⟨g, c, cur, hv, by omega, r⟩
/-- A store elsewhere. -/
theorem Own.setOther (h : Own w base e k enc A n cap xs) {p : Addr} (hp : A.map (·.block) ≠ some p.block) (u : Value) : Own (w.setCell p u) base e k enc A n cap xs :=
  h.kept (row := some p.block) ⟨rfl, rfl, rfl, by simp [World.setCell], fun b hb hne => Below.heap_setCell _ _ _ _ (by intro e; subst e; exact hne rfl)⟩ (.inr hp)
/-- What was grown by a row of one's own is new to a world that lacks the row. -/
theorem New.grownOwn {w0 : World} (hn : New w0 w) (h : Own w base e k enc A n cap xs) (hb : w0.heap.size ≤ base) (hg : w.grownBy W (A.map (·.block))) : New w0 W :=
  hn.grown hg fun b hb' => by
    rcases h.form with ⟨rfl, _⟩ | ⟨g, rfl, hg', _⟩
    · simp at hb'
    · simp at hb'; omega
end

/-- Block b is just the cells cs of type t, none frozen. -/
def Bx (w : World) (b : Nat) (t : TypeId) (cs : Array Value) : Prop := w.heap[b]? = some (.cells cs t (0, 0))
section
variable {w W : World} {b : Nat} {t : TypeId} {cs : Array Value}
theorem Bx.lt (h : Bx w b t cs) : b < w.heap.size := (Array.getElem?_eq_some_iff.1 h).1
theorem Bx.cell (h : Bx w b t cs) (i : Nat) : w.cell? ⟨b, i, none⟩ = cs[i]? := cell_of_row w b i cs t (0, 0) h
theorem Bx.free (h : Bx w b t cs) (i : Nat) : w.frozen? ⟨b, i, none⟩ = false := by
  unfold Bx at h
  simp [World.frozen?, h]
theorem Bx.mk (w : World) (t : TypeId) (cs : Array Value) : Bx (w.alloc (.cells cs t)) w.heap.size t cs := heap_alloc_new w _
theorem Bx.mk_at (w : World) (t : TypeId) (cs : Array Value) (b : Nat) (hb : b = w.heap.size) : Bx (w.alloc (.cells cs t)) b t cs := hb ▸ Bx.mk w t cs
theorem Bx.drew (h : Bx w b t cs) : Bx w.drew b t cs := h
theorem Bx.drewN (h : Bx w b t cs) (n : Nat) : Bx (w.drewN n) b t cs := h
theorem Bx.alloc (h : Bx w b t cs) (o : Obj) : Bx (w.alloc o) b t cs := (Below.heap_alloc w o b h.lt).trans h
theorem Bx.set (h : Bx w b t cs) (i : Nat) (u : Value) : Bx (w.setCell ⟨b, i, none⟩ u) b t (cs.setIfInBounds i u) := by
  unfold Bx at h ⊢
  simp [World.setCell, Array.getElem?_modify, h]
theorem Bx.far (h : Bx w b t cs) {p : Addr} (hp : b ≠ p.block) (u : Value) : Bx (w.setCell p u) b t cs := (Below.heap_setCell w p u b hp).trans h
theorem Bx.keep (h : Bx w b t cs) (hn : New w W) : Bx W b t cs := hn.heap h
theorem Bx.grown {row : Option Nat} (h : Bx w b t cs) (hg : w.grownBy W row) (hne : some b ≠ row) : Bx W b t cs := (hg.block b h.lt hne).trans h
theorem Bx.below {B : Nat} (h : Bx w b t cs) (hb : Below B w W) (hlt : b < B) : Bx W b t cs := (hb.block b hlt).trans h
end

/-- append of one element: at a plain region's list. -/
theorem wpList_push {P : Program} (w : World) {ops : Array Oper} {rest : List Oper} {o : Oper} {a : Act} {Q : Exit → Act → World → Prop} (hgd : o.guard = none) (s x : Operand) (t : TypeId)
    (ho : o.op = .call { callee := .builtin .append, args := #[s, x], argTypes := #[t, t] })
    {α : Type} (e : TypeId) (i : TypeInfo) (z : Value) (k bytes : Nat) (ht : P.underlying t = some (.slice e)) (hi : P.info? e = some i) (hz : i.zero = some z)
    (hsize : i.size = k) (hby : i.bytes = bytes) (hzs : z.cells.size = k) (hsz : 0 < k)
    (base : Nat) (enc : α → List Value) (A : Option Addr) (n cap : Nat) (xs : List α) (hs : a.eval s = .slice A n cap) (hown : Own w base e k enc A n cap xs)
    (B m c : Nat) (ys : List α) (hx : a.eval x = .slice (some ⟨B, 0, none⟩) m c) (hm : ys.length = m) (hm0 : 0 < m) (hnews : ∀ j u, (ys.flatMap enc)[j]? = some u → w.cell? ⟨B, j, none⟩ = some u) (h1 : ∀ x, ∀ u ∈ enc x, u.oneCell' = true)
    (h63 : n + m ≤ maxLen) (hbytes : (n + m) * bytes ≤ 140737488355328) (hbase : base ≤ w.heap.size)
    (h : ∀ g cap' w', Own w' base e k enc (some ⟨g, 0, none⟩) (n + m) cap' (xs ++ ys) → w.grownBy w' (A.map (·.block)) → (A.map (·.block) = some g ∨ g = w.heap.size) → base ≤ g → g < w'.heap.size → (∀ w0, New w0 w → w0.heap.size ≤ base → New w0 w') →
      wpList P ops Q rest (a.put o.dst (.slice (some ⟨g, 0, none⟩) (n + m) cap')) w') : wpList P ops Q (o :: rest) a w := by
  refine wpList_append_lies w hgd s x t ho base e i z k bytes ht hi hz hsize hby hzs hsz _ n _ hs hown.2.2 ⟨B, 0, none⟩ m c (ys.flatMap enc) hx (by rw [flat_len hown.2.1, hm]) ?_ ?_ hm0 h63 hbytes hbase _ rfl ?_
  · intro j u hu
    have hadd : (⟨B, 0, none⟩ : Addr).add j = ⟨B, j, none⟩ := by unfold Addr.add; split <;> simp_all
    rw [hadd]
    exact hnews j u hu
  · intro u hu
    obtain ⟨x, _, hux⟩ := List.mem_flatMap.1 hu
    exact h1 x u hux
  · intro g cap' w' hrow hgrow hat hlt
    have hOb : Value.ownBlock (.slice A n cap) = A.map (·.block) := by cases A <;> rfl
    rw [hOb] at hgrow hat
    have hb : base ≤ g := by
      rcases hrow.2 with ⟨hv, _⟩ | ⟨g', c', cur, hv, hb, _⟩
      · cases hv
      · injection hv with h1 _ _
        injection h1 with h1
        injection h1 with h1
        omega
    exact h g cap' w' ⟨by rw [List.length_append, hown.1, hm], hown.2.1, by rw [List.flatMap_append]; exact hrow⟩ hgrow hat hb hlt (fun w0 hn hb0 => hn.grownOwn hown hb0 hgrow)

/-- A store below the call's own blocks. -/
theorem Own.setBelow {α : Type} {w : World} {base e k n cap : Nat} {enc : α → List Value} {A : Option Addr} {xs : List α} (h : Own w base e k enc A n cap xs) {p : Addr} (hp : p.block < base) (u : Value) : Own (w.setCell p u) base e k enc A n cap xs :=
  h.setOther (by
    rcases h.form with ⟨rfl, _⟩ | ⟨g, rfl, hg, _⟩
    · simp
    · simp; omega) u

theorem flat_set {α : Type} {k c : Nat} {enc : α → List Value} {u : Value} (hk : ∀ x, (enc x).length = k) : ∀ (xs : List α) (j : Nat) (x y : α), xs[j]? = some x → enc y = (enc x).set c u → c < k →
    (xs.set j y).flatMap enc = (xs.flatMap enc).set (j * k + c) u := by
  intro xs
  induction xs with
  | nil => intro j x y h; simp at h
  | cons z zs ih =>
    intro j x y h hy hc
    cases j with
    | zero =>
      simp at h; subst h
      simp only [List.set_cons_zero, List.flatMap_cons, Nat.zero_mul, Nat.zero_add]
      rw [List.set_append_left _ _ (by rw [hk]; exact hc), hy]
    | succ j =>
      simp at h
      simp only [List.set_cons_succ, List.flatMap_cons]
      rw [ih j x y h hy hc, List.set_append_right _ _ (by rw [hk, Nat.add_mul]; omega), hk]
      rw [show (j + 1) * k + c - k = j * k + c by rw [Nat.add_mul]; omega]

/-- A store into an element of an owned slice. -/
theorem Own.setAt {α : Type} {w : World} {base e k n cap : Nat} {enc : α → List Value} {g : Nat} {xs : List α} (h : Own w base e k enc (some ⟨g, 0, none⟩) n cap xs)
    (j c : Nat) (x y : α) (u : Value) (hx : xs[j]? = some x) (hy : enc y = (enc x).set c u) (hc : c < k) (o : Nat) (ho : o = j * k + c) : Own (w.setCell ⟨g, o, none⟩ u) base e k enc (some ⟨g, 0, none⟩) n cap (xs.set j y) := by
  subst ho
  refine ⟨by rw [List.length_set]; exact h.1, h.2.1, ?_, ?_⟩
  · rw [flat_len h.2.1, List.length_set, h.1]
  · rcases h.2.2.2 with ⟨hv, _⟩ | ⟨g', c', cur, hv, hb, hg, hn, hm, hs, ht⟩
    · cases hv
    · right
      have hgg : g' = g := by injection hv with h1 _ _; injection h1 with h1; injection h1 with h1; exact h1.symm
      subst hgg
      refine ⟨g', c', cur.setIfInBounds (j * k + c) u, hv, hb, ?_, hn, hm, by simp [hs], ?_⟩
      · simp [World.setCell, Array.getElem?_modify, hg]
      · rw [flat_set h.2.1 xs j x y hx hy hc, ← ht, Array.toList_setIfInBounds, List.take_set]
theorem Own.set1 {α : Type} {w : World} {base e n cap : Nat} {enc : α → List Value} {g : Nat} {xs : List α} (h : Own w base e 1 enc (some ⟨g, 0, none⟩) n cap xs)
    (j : Nat) (y : α) (u : Value) (hj : j < n) (hy : enc y = [u]) : Own (w.setCell ⟨g, j, none⟩ u) base e 1 enc (some ⟨g, 0, none⟩) n cap (xs.set j y) := by
  have hjl : j < xs.length := by rw [h.1]; exact hj
  refine h.setAt j 0 xs[j] y u (List.getElem?_eq_getElem hjl) ?_ (by omega) j (by omega)
  rw [hy]
  have h1 := h.2.1 xs[j]
  match hq : enc xs[j], h1 with
  | [a], _ => rfl
theorem Own.free {α : Type} {w : World} {base e k n cap : Nat} {enc : α → List Value} {g : Nat} {xs : List α} (h : Own w base e k enc (some ⟨g, 0, none⟩) n cap xs) (o : Nat) : w.frozen? ⟨g, o, none⟩ = false := by
  rcases h.2.2.2 with ⟨hv, _⟩ | ⟨g', c', cur, hv, hb, hg, _⟩
  · cases hv
  · injection hv with h1 _ _; injection h1 with h1; injection h1 with h1
    subst h1
    simp [World.frozen?, hg]
theorem Own.cell1 {α : Type} {w : World} {base e n cap : Nat} {enc : α → List Value} {g : Nat} {xs : List α} (h : Own w base e 1 enc (some ⟨g, 0, none⟩) n cap xs) (j : Nat) (x : α) (u : Value) (hx : xs[j]? = some x) (hu : enc x = [u]) : w.cell? ⟨g, j, none⟩ = some u := by
  have hn : 0 < n := by have := (List.getElem?_eq_some_iff.1 hx).1; rw [h.1] at this; omega
  obtain ⟨b, o, hA, _, hc⟩ := h.rd.some_ hn
  injection hA with hA
  injection hA with h1 h2
  subst h1 h2
  have := hc j x hx 0 u (by rw [hu]; rfl)
  rw [show 0 + j * 1 + 0 = j by omega] at this
  exact this

theorem run_append_of_nil {P : Program} (w : World) (base : Nat) (t ty e : TypeId) (i : TypeInfo) (size : Nat) (ht : P.underlying t = some (.slice e)) (hi : P.info? e = some i)
    (v : Value) (n : Nat) (xs : List Value) (hown : w.ownsRow base e size v n xs) (c : Nat) : (Builtin.append_ #[t, t] ty #[v, .slice none 0 c]).run P w = .ok v w := by
  rcases hown.2 with ⟨rfl, rfl⟩ | ⟨g, cap, cur, rfl, _, _, hnc, _⟩
  · simp [Builtin.append_, run_underlying ht, sizeOf, typeInfo, hi, Builtin.lenOf, Builtin.firstCells]
  · simp [Builtin.append_, run_underlying ht, sizeOf, typeInfo, hi, Builtin.lenOf, Builtin.firstCells, hnc, storeCells]

/-- append of a whole slice, wherever it lies: at a plain region's list. -/
theorem wpList_pour {P : Program} (w : World) {ops : Array Oper} {rest : List Oper} {o : Oper} {a : Act} {Q : Exit → Act → World → Prop} (hgd : o.guard = none) (s x : Operand) (t : TypeId)
    (ho : o.op = .call { callee := .builtin .append, args := #[s, x], argTypes := #[t, t] })
    {α : Type} (e : TypeId) (i : TypeInfo) (z : Value) (k bytes : Nat) (ht : P.underlying t = some (.slice e)) (hi : P.info? e = some i) (hz : i.zero = some z)
    (hsize : i.size = k) (hby : i.bytes = bytes) (hzs : z.cells.size = k) (hsz : 0 < k)
    (base : Nat) (enc : α → List Value) (A : Option Addr) (n cap : Nat) (xs : List α) (hs : a.eval s = .slice A n cap) (hown : Own w base e k enc A n cap xs)
    (B : Option Addr) (m c : Nat) (ys : List α) (hx : a.eval x = .slice B m c) (hr : Rd w k enc B m ys) (h1 : ∀ x, ∀ u ∈ enc x, u.oneCell' = true)
    (h63 : n + m ≤ maxLen) (hbytes : (n + m) * bytes ≤ 140737488355328) (hbase : base ≤ w.heap.size)
    (h : ∀ A' cap' w', Own w' base e k enc A' (n + m) cap' (xs ++ ys) → w.grownBy w' (A.map (·.block)) → (∀ w0, New w0 w → w0.heap.size ≤ base → New w0 w') →
      wpList P ops Q rest (a.put o.dst (.slice A' (n + m) cap')) w') : wpList P ops Q (o :: rest) a w := by
  refine wpList_plain hgd fun K hK => ?_
  have hOb : Value.ownBlock (.slice A n cap) = A.map (·.block) := by cases A <;> rfl
  suffices hrun : ∃ A' cap' w', (Builtin.append_ #[t, t] o.type #[.slice A n cap, .slice B m c]).run P w = .ok (.slice A' (n + m) cap') w' ∧ Own w' base e k enc A' (n + m) cap' (xs ++ ys) ∧ w.grownBy w' (A.map (·.block)) by
    obtain ⟨A', cap', w', hr, h2, h3⟩ := hrun
    unfold Oper.wp execOp
    simp only [ho, resolve, invoke, builtin, Sem.run_bind, Sem.run_pure, Result.andThen_ok, List.map_toArray, List.map_cons, List.map_nil, hs, hx, hr]
    exact hK _ _ (h A' cap' w' h2 h3 (fun w0 hn hb0 => hn.grownOwn hown hb0 h3))
  rcases B with _ | ad
  · have hm : m = 0 := by
      rcases Nat.eq_zero_or_pos m with h0 | h0
      · exact h0
      · obtain ⟨b, o, e, _⟩ := hr.2 h0; cases e
    subst hm
    have hys : ys = [] := List.eq_nil_of_length_eq_zero hr.1
    subst hys
    exact ⟨A, cap, w, run_append_of_nil w base t o.type e i k ht hi _ n _ hown.2.2 c, by simpa using hown, World.grownBy.refl w _⟩
  · have hnews : ∀ j u, (ys.flatMap enc)[j]? = some u → w.cell? (ad.add j) = some u := by
      intro j u hu
      rcases Nat.eq_zero_or_pos m with h0 | h0
      · subst h0
        have hys : ys = [] := List.eq_nil_of_length_eq_zero hr.1
        subst hys
        simp at hu
      · obtain ⟨b, o', e', _, hc⟩ := hr.2 h0
        injection e' with e'
        subst e'
        have hlen := flat_len hown.2.1 ys
        have hj : j < ys.length * k := by rw [← hlen]; exact (List.getElem?_eq_some_iff.1 hu).1
        have hdm := Nat.div_add_mod j k
        have hjk : j / k < ys.length := Nat.div_lt_of_lt_mul (by rw [Nat.mul_comm]; exact hj)
        have hmod : j % k < (enc ys[j / k]).length := by rw [hown.2.1]; exact Nat.mod_lt _ hsz
        have h2 := flat_at hown.2.1 ys (j / k) ys[j / k] (List.getElem?_eq_getElem hjk) (j % k) _ (List.getElem?_eq_getElem hmod)
        have hjj : j / k * k + j % k = j := by rw [Nat.mul_comm]; exact hdm
        rw [hjj, hu] at h2
        injection h2 with h2
        have h3 := hc (j / k) _ (List.getElem?_eq_getElem hjk) (j % k) _ (List.getElem?_eq_getElem hmod)
        rw [← h2] at h3
        rw [show o' + j / k * k + j % k = o' + j by omega] at h3
        unfold Addr.add
        split
        · rename_i hj0; subst hj0; exact h3
        · exact h3
    obtain ⟨v', w', hrun, h2, h3, _, _⟩ := run_append_own_at (P := P) w base t o.type e i z k bytes ht hi hz hsize hby hzs hsz _ n _ hown.2.2 ad m c (ys.flatMap enc) (by rw [flat_len hown.2.1, hr.1]) hnews
      (by intro u hu; obtain ⟨x, _, hux⟩ := List.mem_flatMap.1 hu; exact h1 x u hux) h63 hbytes hbase
    have hv : ∃ A' cap', v' = .slice A' (n + m) cap' := by
      rcases h2.2 with ⟨hv, h0⟩ | ⟨g, cp, cur, hv, _⟩
      · exact ⟨none, 0, by rw [h0]; exact hv⟩
      · exact ⟨_, cp, hv⟩
    obtain ⟨A', cap', rfl⟩ := hv
    rw [hOb] at h3
    exact ⟨A', cap', w', hrun, ⟨by rw [List.length_append, hown.1, hr.1], hown.2.1, by rw [List.flatMap_append]; exact h2⟩, h3⟩

/-- An empty slice that is not nil. -/
theorem Own.empty {α : Type} (w : World) (base e k : Nat) {enc : α → List Value} (hk : ∀ x, (enc x).length = k) (b : Nat) (hb : b = w.heap.size) (hbase : base ≤ b) : Own (w.alloc (.cells #[] e)) base e k enc (some ⟨b, 0, none⟩) 0 0 [] := by
  subst hb
  exact ⟨rfl, hk, World.ownsRow_made w #[] 0 hbase (Nat.zero_le _) (by simp)⟩

/-- 'make([]T, n)', elements of one cell: at a plain region's list. -/
theorem wpList_mk {P : Program} (w : World) {ops : Array Oper} {rest : List Oper} {o : Oper} {a : Act} {Q : Exit → Act → World → Prop} (hg : o.guard = none) (l c : Operand) (t : TypeId) (hop : o.op = Op.makeSlice t l c)
    {α : Type} (base : Nat) (e : TypeId) (i : TypeInfo) (z : Value) (h1 : P.underlying t = some (.slice e)) (h2 : P.info? e = some i) (h3 : i.zero = some z) (h4 : i.size = 1) (hz : z.cells = #[z])
    (enc : α → List Value) (hk : ∀ x, (enc x).length = 1) (x0 : α) (hx0 : enc x0 = [z])
    (n : Nat) (hl : a.eval l = .int .i64 (n : Int)) (hc : a.eval c = .int .i64 (n : Int)) (b2 : i.bytes * n ≤ 281474976710656) (b3 : n ≤ maxLen) (b4 : base ≤ w.heap.size)
    (h : ∀ w', Own w' base e 1 enc (some ⟨w.heap.size, 0, none⟩) n n (List.replicate n x0) → New w w' → w.heap.size < w'.heap.size → wpList P ops Q rest (a.put o.dst (.slice (some ⟨w.heap.size, 0, none⟩) n n)) w') : wpList P ops Q (o :: rest) a w :=
  wpList_make_full w hg l c t hop base e i z 1 h1 h2 h3 h4 .i64 .i64 n n n hl hc rfl rfl b2 b3 b4 fun w' hrow hgrow => by
    have hf : (List.replicate n x0).flatMap enc = (madeCells z.cells (n * 1)).toList := by
      rw [hz, Nat.mul_one, toList_madeCells_one]
      clear hl hc b2 b3 hrow h
      induction n with
      | zero => rfl
      | succ n ih => rw [List.replicate_succ, List.replicate_succ, List.flatMap_cons, ih, hx0]; rfl
    have hown : Own w' base e 1 enc (some ⟨w.heap.size, 0, none⟩) n n (List.replicate n x0) := ⟨by simp, hk, by rw [hf]; exact hrow⟩
    refine h w' hown ((New.refl w).grown hgrow (fun k hk => by cases hk)) ?_
    rcases hown.form with ⟨hA, _⟩ | ⟨g, hA, _, hlt, _⟩
    · cases hA
    · injection hA with hA; injection hA with hA; rw [hA]; exact hlt

def encB (c : UInt8) : List Value := [.int .u8 (c.toNat : Int)]

/-- '[]byte(s)': at a plain region's list. -/
theorem wpList_bytes {P : Program} (w : World) {ops : Array Oper} {rest : List Oper} {o : Oper} {a : Act} {Q : Exit → Act → World → Prop} (hgd : o.guard = none) (x : Operand) (src dst e : TypeId)
    (ho : o.op = .convert src dst x) (hs : P.underlying src = some .string) (hd : P.underlying dst = some (.slice e)) (he : P.underlying e = some (.int .u8)) (s : ByteArray) (hx : a.eval x = .string s)
    (h : ∀ g cap w', New w w' → Rd w' 1 encB (some ⟨g, 0, none⟩) s.size s.data.toList → w.heap.size ≤ g → wpList P ops Q rest (a.put o.dst (.slice (some ⟨g, 0, none⟩) s.size cap)) w') : wpList P ops Q (o :: rest) a w := by
  refine wpList_plain hgd fun K hK => ?_
  unfold Oper.wp execOp
  have hrun := run_bytes_of_string (P := P) w src dst e s hs hd he
  simp only [ho, hx, Sem.run_bind, hrun, Result.andThen_ok, Sem.run_pure]
  refine hK _ _ (h _ _ _ (((New.refl w).drew).alloc _) ⟨by simp, fun hn => ⟨w.heap.size, 0, rfl, by simp, fun i c hc j u hu => ?_⟩⟩ (Nat.le_refl _))
  have hj : j = 0 := by
    rcases j with _ | j
    · rfl
    · simp [encB] at hu
  subst hj
  simp [encB] at hu
  subst hu
  have hi := (List.getElem?_eq_some_iff.1 hc).1
  have hg : (w.drew.alloc (.cells (bytesRow s (grownCap w s.size 0 e)) e ((bytesRow s (grownCap w s.size 0 e)).size, (bytesRow s (grownCap w s.size 0 e)).size + 1))).heap[w.heap.size]? = some (.cells (bytesRow s (grownCap w s.size 0 e)) e ((bytesRow s (grownCap w s.size 0 e)).size, (bytesRow s (grownCap w s.size 0 e)).size + 1)) := heap_alloc_new w.drew _
  rw [cell_of_row _ _ _ _ _ _ hg]
  have hi2 : i < s.data.size := by simpa using hi
  have hc2 : s.data[i] = c := by
    have := (List.getElem?_eq_some_iff.1 hc).2
    simpa using this
  rw [show 0 + i * 1 + 0 = i by omega]
  unfold bytesRow
  rw [Array.getElem?_append_left (by simpa using hi2), Array.getElem?_map, Array.getElem?_eq_getElem hi2, hc2]
  rfl

theorem take_map_succ {α β : Type} (f : α → β) (xs : List α) (j : Nat) (x : α) (h : xs[j]? = some x) : (xs.map f).take (j + 1) = (xs.map f).take j ++ [f x] := by
  obtain ⟨hk, rfl⟩ := List.getElem?_eq_some_iff.1 h
  rw [List.take_succ_eq_append_getElem (by simpa using hk)]
  simp
theorem take_all_map {α β : Type} (f : α → β) (xs : List α) (j : Nat) (h : xs.length ≤ j) : (xs.map f).take j = xs.map f := List.take_of_length_le (by simpa using h)
theorem take_snoc {α : Type} (xs : List α) (j : Nat) (x : α) (h : xs[j]? = some x) : xs.take (j + 1) = xs.take j ++ [x] := by
  obtain ⟨hk, rfl⟩ := List.getElem?_eq_some_iff.1 h
  rw [List.take_succ_eq_append_getElem hk]

end Go.Sky

namespace Go.Sky

/-! ### Names -/
def letB (c : UInt8) : Bool := decide (97 ≤ c.toNat ∧ c.toNat ≤ 122) || decide (65 ≤ c.toNat ∧ c.toNat ≤ 90)
def digB (c : UInt8) : Bool := decide (48 ≤ c.toNat ∧ c.toNat ≤ 57)
def badB (i : Nat) (c : UInt8) : Bool := !letB c && (decide (i = 0) || (decide (c.toNat ≠ 45) && !digB c))
def badTo (l : List UInt8) (k : Nat) : Bool := (List.range k).any fun i => badB i (l.getD i 0)
def nameS (l : List UInt8) : Bool := decide (1 ≤ l.length ∧ l.length ≤ 12) && !badTo l l.length
theorem badTo_step (l : List UInt8) (k : Nat) : badTo l (k + 1) = (badTo l k || badB k (l.getD k 0)) := by
  unfold badTo
  rw [List.range_succ, List.any_append]
  simp
theorem badTo_mono {l : List UInt8} {k h : Nat} (hk : k ≤ h) (h1 : badTo l k = true) : badTo l h = true := by
  obtain ⟨d, rfl⟩ := Nat.exists_eq_add_of_le hk
  clear hk
  induction d with
  | zero => exact h1
  | succ d ih => rw [← Nat.add_assoc, badTo_step, ih]; rfl
theorem name_bad {l : List UInt8} {k : Nat} (hk : k ≤ l.length) (h : badTo l k = true) : nameS l = false := by
  unfold nameS
  rw [badTo_mono hk h]
  simp
theorem name_len {l : List UInt8} (h : badTo l l.length = false) : nameS l = decide (1 ≤ l.length ∧ l.length ≤ 12) := by
  unfold nameS
  rw [h]
  simp
theorem let_or (c : UInt8) : letB c = decide (97 ≤ (c ||| 32).toNat ∧ (c ||| 32).toNat ≤ 122) := by
  have h : ∀ n : Fin 256, (decide (97 ≤ n.val ∧ n.val ≤ 122) || decide (65 ≤ n.val ∧ n.val ≤ 90)) = decide (97 ≤ (n.val ||| 32) ∧ (n.val ||| 32) ≤ 122) := by decide +kernel
  have := h ⟨c.toNat, c.toNat_lt⟩
  unfold letB
  rw [UInt8.toNat_or]
  exact this

/-! ### Items -/
structure Item where
  n : ByteArray
  p : Int
  z : Int
  t : Int
def encM (x : Item) : List Value := [.string x.n, .int .i64 x.p, .int .i64 x.z, .int .i64 x.t]
theorem encM_len (x : Item) : (encM x).length = 4 := rfl
theorem encM_one (x : Item) : ∀ u ∈ encM x, u.oneCell' = true := by intro u hu; simp [encM] at hu; rcases hu with rfl | rfl | rfl | rfl <;> rfl
end Go.Sky

namespace Go.Sky

def nameI (x : Item) : Bool := nameS x.n.data.toList
def rangeI (x : Item) : Bool := inR x.p 0 9 && inR x.z 1 10000 && tick x.t
def sameN (x y : Item) : Bool := y.n.toList == x.n.toList
def itemE (pre : List Item) (x : Item) : Int := firstE [errU (nameI x) 4, errU (!pre.any (sameN x)) 5, errU (rangeI x) 2]
def queueFrom (pre : List Item) : List Item → Int → Int × Int
  | [], _ => (0, 0)
  | x :: l, i => if itemE pre x = 0 then queueFrom (pre ++ [x]) l (i + 1) else (i, itemE pre x)
def queueS (q : List Item) : Int × Int := if 20 < q.length then (0, 8) else queueFrom [] q 0
theorem queueFrom_step {q : List Item} {k : Nat} {x : Item} (h : q[k]? = some x) :
    queueFrom (q.take k) (q.drop k) k = if itemE (q.take k) x = 0 then queueFrom (q.take (k + 1)) (q.drop (k + 1)) ((k + 1 : Nat) : Int) else ((k : Int), itemE (q.take k) x) := by
  obtain ⟨hk, rfl⟩ := List.getElem?_eq_some_iff.1 h
  rw [List.drop_eq_getElem_cons hk, queueFrom, List.take_succ_eq_append_getElem hk]
  rfl
theorem itemE_zero {pre : List Item} {x : Item} (h : itemE pre x = 0) : nameI x = true ∧ pre.any (sameN x) = false ∧ rangeI x = true := by
  unfold itemE at h
  rw [firstE_three, firstE_two] at h
  cases h1 : nameI x
  · rw [h1] at h; simp [errU] at h
  · cases h2 : pre.any (sameN x)
    · cases h3 : rangeI x
      · rw [h1, h2, h3] at h; simp [errU] at h
      · exact ⟨rfl, rfl, rfl⟩
    · rw [h1, h2] at h; simp [errU] at h
theorem itemE_name {pre : List Item} {x : Item} (h : nameI x = false) : itemE pre x = 4 := by unfold itemE; rw [h]; rfl
theorem itemE_same {pre : List Item} {x : Item} (h : nameI x = true) (h2 : pre.any (sameN x) = true) : itemE pre x = 5 := by unfold itemE; rw [h, h2]; rfl
theorem itemE_range {pre : List Item} {x : Item} (h : nameI x = true) (h2 : pre.any (sameN x) = false) (h3 : rangeI x = false) : itemE pre x = 2 := by unfold itemE; rw [h, h2, h3]; rfl
theorem itemE_ok {pre : List Item} {x : Item} (h : nameI x = true) (h2 : pre.any (sameN x) = false) (h3 : rangeI x = true) : itemE pre x = 0 := by unfold itemE; rw [h, h2, h3]; rfl
theorem queueS_small {q : List Item} (h : (queueS q).2 = 0) : q.length ≤ 20 := by
  unfold queueS at h
  by_cases h1 : 20 < q.length
  · rw [if_pos h1] at h; simp at h
  · omega

/-! ### The order -/
/-- i goes before k. -/
def befQ (q : List Item) (i k : Nat) : Bool :=
  let a := (q[i]?).getD ⟨.empty, 0, 0, 0⟩
  let b := (q[k]?).getD ⟨.empty, 0, 0, 0⟩
  if a.p ≠ b.p then decide (b.p < a.p) else if a.t ≠ b.t then decide (a.t < b.t) else decide (i < k)
def cmpQ (q : List Item) (i k : Nat) : Int :=
  let a := (q[i]?).getD ⟨.empty, 0, 0, 0⟩
  let b := (q[k]?).getD ⟨.empty, 0, 0, 0⟩
  if cmpI b.p a.p ≠ 0 then cmpI b.p a.p else cmpI a.t b.t
theorem cmpQ_neg {q : List Item} {i k : Nat} (h : k < i) : cmpQ q i k < 0 ↔ befQ q i k = true := by
  unfold cmpQ befQ
  generalize (q[i]?).getD ⟨.empty, 0, 0, 0⟩ = a
  generalize (q[k]?).getD ⟨.empty, 0, 0, 0⟩ = b
  dsimp only
  unfold cmpI
  by_cases h1 : b.p < a.p
  · simp [h1]; omega
  · by_cases h2 : a.p < b.p
    · simp [h1, h2]; omega
    · have e : a.p = b.p := by omega
      simp [e]
      by_cases h3 : a.t < b.t
      · simp [h3]; omega
      · by_cases h4 : b.t < a.t
        · simp [h3, h4]; omega
        · simp [h3, h4]; omega
theorem bef_irr (q : List Item) (i : Nat) : befQ q i i = false := by unfold befQ; simp
theorem bef_asym {q : List Item} {i k : Nat} (h : befQ q i k = true) : befQ q k i = false := by
  unfold befQ at *
  generalize (q[i]?).getD ⟨.empty, 0, 0, 0⟩ = a at *
  generalize (q[k]?).getD ⟨.empty, 0, 0, 0⟩ = b at *
  dsimp only at *
  by_cases h1 : a.p = b.p
  · by_cases h2 : a.t = b.t
    · simp [h1, h2] at h ⊢; omega
    · have h2' : ¬ b.t = a.t := fun h => h2 h.symm
      simp [h1, h2, h2'] at h ⊢; omega
  · have h1' : ¬ b.p = a.p := fun h => h1 h.symm
    simp [h1, h1'] at h ⊢; omega
theorem bef_total {q : List Item} {i k : Nat} (h : befQ q i k = false) (hne : i ≠ k) : befQ q k i = true := by
  unfold befQ at *
  generalize (q[i]?).getD ⟨.empty, 0, 0, 0⟩ = a at *
  generalize (q[k]?).getD ⟨.empty, 0, 0, 0⟩ = b at *
  dsimp only at *
  by_cases h1 : a.p = b.p
  · by_cases h2 : a.t = b.t
    · simp [h1, h2] at h ⊢; omega
    · have h2' : ¬ b.t = a.t := fun h => h2 h.symm
      simp [h1, h2, h2'] at h ⊢; omega
  · have h1' : ¬ b.p = a.p := fun h => h1 h.symm
    simp [h1, h1'] at h ⊢; omega
theorem bef_trans {q : List Item} {i k m : Nat} (h : befQ q i k = true) (h' : befQ q k m = true) : befQ q i m = true := by
  unfold befQ at *
  generalize (q[i]?).getD ⟨.empty, 0, 0, 0⟩ = a at *
  generalize (q[k]?).getD ⟨.empty, 0, 0, 0⟩ = b at *
  generalize (q[m]?).getD ⟨.empty, 0, 0, 0⟩ = c at *
  dsimp only at *
  split at h <;> split at h' <;> (try split at h) <;> (try split at h') <;> simp only [decide_eq_true_eq] at h h' <;> (split <;> (try split) <;> simp only [decide_eq_true_eq] <;> omega)

/-! ### Insertion -/
/-- The place from the right: elements that x goes before are passed by. -/
def cutI (p : Nat → Bool) (R : List Nat) : Nat → Nat
  | 0 => 0
  | j + 1 => if p (R.getD j 0) then cutI p R j else j + 1
def insI (p : Nat → Bool) (R : List Nat) (x : Nat) : List Nat := R.take (cutI p R R.length) ++ x :: R.drop (cutI p R R.length)
def sortQ (q : List Item) : Nat → List Nat
  | 0 => []
  | i + 1 => insI (befQ q i) (sortQ q i) i
theorem cutI_le (p : Nat → Bool) (R : List Nat) : ∀ j, cutI p R j ≤ j
  | 0 => Nat.le_refl _
  | j + 1 => by
    rw [cutI]
    split
    · have := cutI_le p R j; omega
    · omega
theorem cutI_yes {p : Nat → Bool} {R : List Nat} {j : Nat} (h : p (R.getD j 0) = true) : cutI p R (j + 1) = cutI p R j := by rw [cutI, if_pos h]
theorem cutI_no {p : Nat → Bool} {R : List Nat} {j : Nat} (h : p (R.getD j 0) = false) : cutI p R (j + 1) = j + 1 := by rw [cutI, if_neg (by rw [h]; decide)]
/-- The row while i is on its way: at place j. -/
def midI (R : List Nat) (x j n : Nat) : List Nat := R.take j ++ x :: (R.drop j ++ (List.range' (x + 1) (n - (x + 1))))
theorem insI_len (p : Nat → Bool) (R : List Nat) (x : Nat) : (insI p R x).length = R.length + 1 := by
  have := cutI_le p R R.length
  unfold insI; simp; omega
theorem sortQ_len (q : List Item) : ∀ i, (sortQ q i).length = i
  | 0 => rfl
  | i + 1 => by rw [sortQ, insI_len, sortQ_len q i]
theorem insI_perm (p : Nat → Bool) (R : List Nat) (x : Nat) : (insI p R x).Perm (x :: R) := by
  unfold insI
  refine List.perm_middle.trans ?_
  rw [List.take_append_drop]
theorem sortQ_mem (q : List Item) : ∀ i x, x ∈ sortQ q i ↔ x < i
  | 0, x => by simp [sortQ]
  | i + 1, x => by
    rw [sortQ, (insI_perm _ _ _).mem_iff, List.mem_cons, sortQ_mem q i]; omega
theorem sortQ_perm (q : List Item) : ∀ i, (sortQ q i).Perm (List.range i)
  | 0 => List.Perm.refl _
  | i + 1 => by
    rw [sortQ, List.range_succ]
    refine (insI_perm _ _ _).trans ?_
    refine List.Perm.trans (List.Perm.cons _ (sortQ_perm q i)) ?_
    exact (List.perm_append_singleton i (List.range i)).symm
theorem cutI_right {p : Nat → Bool} {R : List Nat} : ∀ j, ∀ k, cutI p R j ≤ k → k < j → p (R.getD k 0) = true
  | 0, k, _, hk => by omega
  | j + 1, k, h, hk => by
    by_cases hp : p (R.getD j 0) = true
    · rw [cutI_yes hp] at h
      by_cases hkj : k = j
      · rw [hkj]; exact hp
      · exact cutI_right j k h (by omega)
    · rw [cutI_no (by simpa using hp)] at h; omega
theorem cutI_left {p : Nat → Bool} {R : List Nat} : ∀ j, 0 < cutI p R j → p (R.getD (cutI p R j - 1) 0) = false
  | 0, h => by simp [cutI] at h
  | j + 1, h => by
    by_cases hp : p (R.getD j 0) = true
    · rw [cutI_yes hp] at h ⊢; exact cutI_left j h
    · have hp' : p (R.getD j 0) = false := by simpa using hp
      rw [cutI_no hp']; exact hp'
theorem sortQ_sorted (q : List Item) : ∀ i, (sortQ q i).Pairwise (fun a b => befQ q a b = true)
  | 0 => List.Pairwise.nil
  | i + 1 => by
    have ih := sortQ_sorted q i
    have hl := sortQ_len q i
    have hm := sortQ_mem q i
    rw [sortQ, insI]
    obtain ⟨c, hc⟩ : ∃ c, cutI (befQ q i) (sortQ q i) (sortQ q i).length = c := ⟨_, rfl⟩
    have hcl := cutI_le (befQ q i) (sortQ q i) (sortQ q i).length
    have hR := cutI_right (p := befQ q i) (R := sortQ q i) (sortQ q i).length
    have hL := cutI_left (p := befQ q i) (R := sortQ q i) (sortQ q i).length
    rw [hc] at hcl hR hL ⊢
    generalize sortQ q i = R at *
    have ihi := List.pairwise_iff_getElem.1 ih
    have left : ∀ k (hk : k < R.length), k < c → befQ q R[k] i = true := by
      intro k hk hkc
      have h1 := hL (by omega)
      rw [List.getD_eq_getElem?_getD, List.getElem?_eq_getElem (by omega), Option.getD_some] at h1
      have h2 : befQ q (R[c - 1]'(by omega)) i = true := bef_total h1 (by have := (hm (R[c - 1]'(by omega))).1 (List.getElem_mem _); omega)
      by_cases hkc1 : k = c - 1
      · subst hkc1; exact h2
      · exact bef_trans (ihi k (c - 1) hk (by omega) (by omega)) h2
    have right : ∀ k (hk : k < R.length), c ≤ k → befQ q i R[k] = true := by
      intro k hk hkc
      have h1 := hR k hkc hk
      rwa [List.getD_eq_getElem?_getD, List.getElem?_eq_getElem hk, Option.getD_some] at h1
    rw [List.pairwise_append]
    refine ⟨ih.sublist (List.take_sublist _ _), ?_, ?_⟩
    · rw [List.pairwise_cons]
      refine ⟨?_, ih.sublist (List.drop_sublist _ _)⟩
      intro y hy
      obtain ⟨k, hk, rfl⟩ := List.getElem_of_mem hy
      rw [List.length_drop] at hk
      rw [List.getElem_drop]
      exact right _ (by omega) (by omega)
    · intro x hx y hy
      obtain ⟨k, hk, rfl⟩ := List.getElem_of_mem hx
      rw [List.length_take] at hk
      rw [List.getElem_take]
      have hxi := left k (by omega) (by omega)
      rcases List.mem_cons.1 hy with rfl | hy
      · exact hxi
      · obtain ⟨k', hk', rfl⟩ := List.getElem_of_mem hy
        rw [List.length_drop] at hk'
        rw [List.getElem_drop]
        exact bef_trans hxi (right _ (by omega) (by omega))
/-- How many of the first m go before i. -/
def rankTo (q : List Item) (i m : Nat) : Nat := ((List.range m).filter fun k => befQ q k i).length
theorem rank_step (q : List Item) (i m : Nat) : rankTo q i (m + 1) = rankTo q i m + (if befQ q m i then 1 else 0) := by
  unfold rankTo
  rw [List.range_succ, List.filter_append, List.length_append]
  by_cases h : befQ q m i = true
  · simp [h]
  · simp [h]
theorem pair_rank {q : List Item} : ∀ (L : List Nat), L.Pairwise (fun a b => befQ q a b = true) → ∀ k (hk : k < L.length), (L.filter fun y => befQ q y L[k]).length = k
  | [], _, k, hk => by simp at hk
  | x :: L, h, k, hk => by
    rw [List.pairwise_cons] at h
    cases k with
    | zero =>
      simp only [List.getElem_cons_zero]
      rw [List.filter_cons, bef_irr]
      simp only [Bool.false_eq_true, if_false]
      rw [List.length_eq_zero_iff, List.filter_eq_nil_iff]
      intro y hy
      rw [bef_asym (h.1 y hy)]
      decide
    | succ k =>
      simp only [List.getElem_cons_succ]
      have hk' : k < L.length := by simpa using hk
      rw [List.filter_cons, h.1 _ (List.getElem_mem _)]
      simp only [if_true, List.length_cons]
      rw [pair_rank L h.2 k hk']
theorem sort_rank (q : List Item) (n i : Nat) (hi : i < n) : rankTo q i n < n ∧ (sortQ q n)[rankTo q i n]? = some i := by
  have hm := (sortQ_mem q n i).2 hi
  obtain ⟨k, hk, he⟩ := List.getElem_of_mem hm
  have h1 := pair_rank (sortQ q n) (sortQ_sorted q n) k hk
  rw [he] at h1
  have h2 : rankTo q i n = k := by
    rw [← h1]
    exact ((sortQ_perm q n).symm.filter _).length_eq
  rw [h2]
  have hk' := hk
  rw [sortQ_len] at hk'
  exact ⟨hk', by rw [List.getElem?_eq_getElem hk, he]⟩
end Go.Sky

namespace Go.Sky

def encN (n : Nat) : List Value := [.int .i64 (n : Int)]
def rowI (q : List Item) (i n : Nat) : List Nat := sortQ q i ++ List.range' i (n - i)
theorem rowI_len (q : List Item) {i n : Nat} (h : i ≤ n) : (rowI q i n).length = n := by unfold rowI; simp [sortQ_len]; omega
theorem rowI_full (q : List Item) (n : Nat) : rowI q n n = sortQ q n := by unfold rowI; simp
theorem sortQ_one (q : List Item) : sortQ q 1 = [0] := rfl
theorem rowI_start (q : List Item) {n : Nat} (h : 1 ≤ n) : rowI q 1 n = List.range n := by
  unfold rowI
  rw [sortQ_one, List.range_eq_range']
  obtain ⟨m, rfl⟩ := Nat.exists_eq_add_of_le h
  rw [show 1 + m = m + 1 by omega, List.range'_succ]
  simp
theorem mid_start (q : List Item) {i n : Nat} (h : i < n) : rowI q i n = midI (sortQ q i) i i n := by
  unfold rowI midI
  have hl := sortQ_len q i
  rw [List.take_of_length_le (by omega), List.drop_of_length_le (by omega), List.nil_append]
  obtain ⟨m, rfl⟩ := Nat.exists_eq_add_of_lt h
  rw [show i + m + 1 - i = m + 1 by omega, List.range'_succ, show i + m + 1 - (i + 1) = m by omega]
theorem mid_end (q : List Item) {i j n : Nat} (h : cutI (befQ q i) (sortQ q i) i = j) : midI (sortQ q i) i j n = rowI q (i + 1) n := by
  unfold rowI midI
  rw [sortQ, insI, sortQ_len, h]
  simp
theorem mid_len {R : List Nat} {x j n : Nat} (hR : R.length = x) (hj : j ≤ x) (hx : x < n) : (midI R x j n).length = n := by unfold midI; simp; omega
theorem mid_at {R : List Nat} {x j n : Nat} (hR : R.length = x) (hj : j ≤ x) : (midI R x j n)[j]? = some x := by
  unfold midI
  rw [List.getElem?_append_right (by simp; omega)]
  rw [List.length_take, show j - min j R.length = 0 by omega]
  rfl
theorem mid_left {R : List Nat} {x j n : Nat} (hR : R.length = x) (hj : j + 1 ≤ x) : (midI R x (j + 1) n)[j]? = some (R.getD j 0) := by
  unfold midI
  rw [List.getElem?_append_left (by simp; omega), List.getElem?_take_of_lt (by omega), List.getElem?_eq_getElem (by omega), List.getD_eq_getElem?_getD, List.getElem?_eq_getElem (by omega)]
  rfl
theorem mid_step {R : List Nat} {x j n : Nat} (hR : R.length = x) (hj : j + 1 ≤ x) : ((midI R x (j + 1) n).set (j + 1) (R.getD j 0)).set j x = midI R x j n := by
  unfold midI
  have hjl : j < R.length := by omega
  rw [List.take_succ_eq_append_getElem hjl, List.drop_eq_getElem_cons hjl, List.getD_eq_getElem?_getD, List.getElem?_eq_getElem hjl]
  have hl : (R.take j).length = j := by rw [List.length_take]; omega
  rw [List.append_assoc]
  rw [List.set_append_right _ _ (by omega), hl, show j + 1 - j = 1 by omega]
  rw [List.set_append_right _ _ (by omega), hl, Nat.sub_self]
  rfl
theorem mid_step' {R : List Nat} {x j n : Nat} (hR : R.length = x) (hj : j + 1 ≤ x) : ((midI R x (j + 1) n).set j x).set (j + 1) (R.getD j 0) = midI R x j n := by
  rw [List.set_comm _ _ (by omega)]
  exact mid_step hR hj
theorem getD_lt {q : List Item} {i j : Nat} (h : j < i) : (sortQ q i).getD j 0 < i := by
  have hl := sortQ_len q i
  rw [List.getD_eq_getElem?_getD, List.getElem?_eq_getElem (by omega)]
  exact (sortQ_mem q i _).1 (List.getElem_mem _)

/-! ### The reference's order -/
theorem rank_at (q : List Item) (n r : Nat) (h : r < n) : ∃ i, i < n ∧ (sortQ q n)[r]? = some i ∧ rankTo q i n = r := by
  have hl := sortQ_len q n
  refine ⟨(sortQ q n)[r]'(by omega), (sortQ_mem q n _).1 (List.getElem_mem _), List.getElem?_eq_getElem _, ?_⟩
  have h1 := pair_rank (sortQ q n) (sortQ_sorted q n) r (by omega)
  refine Eq.trans ?_ h1
  exact ((sortQ_perm q n).symm.filter _).length_eq
theorem rank_inj {q : List Item} {n i j : Nat} (hi : i < n) (hj : j < n) (h : rankTo q i n = rankTo q j n) : i = j := by
  have h1 := (sort_rank q n i hi).2
  have h2 := (sort_rank q n j hj).2
  rw [h, h2] at h1
  injection h1 with h1
  exact h1.symm
def Placed (q : List Item) (n k : Nat) (xs : List Nat) : Prop := xs.length = n ∧ ∀ i, i < k → xs[rankTo q i n]? = some i
theorem placed_step {q : List Item} {n k : Nat} {xs : List Nat} (h : Placed q n k xs) (hk : k < n) : Placed q n (k + 1) (xs.set (rankTo q k n) k) := by
  refine ⟨by rw [List.length_set]; exact h.1, fun i hi => ?_⟩
  have hr := (sort_rank q n k hk).1
  by_cases he : i = k
  · subst he
    rw [List.getElem?_set_self (by rw [h.1]; exact hr)]
  · rw [List.getElem?_set_ne (fun e => he (rank_inj (by omega) hk e.symm))]
    exact h.2 i (by omega)
theorem placed_end {q : List Item} {n : Nat} {xs : List Nat} (h : Placed q n n xs) : xs = sortQ q n := by
  apply List.ext_getElem?
  intro r
  rcases Nat.lt_or_ge r n with hr | hr
  · obtain ⟨i, hi, h1, h2⟩ := rank_at q n r hr
    rw [h1, ← h2]
    exact h.2 i hi
  · rw [List.getElem?_eq_none (by rw [h.1]; exact hr), List.getElem?_eq_none (by rw [sortQ_len]; exact hr)]
theorem rank_zero (q : List Item) (i : Nat) : rankTo q i 0 = 0 := rfl
theorem rank_le (q : List Item) (i m : Nat) : rankTo q i m ≤ m := by
  unfold rankTo
  have := List.length_filter_le (fun k => befQ q k i) (List.range m)
  simpa using this
end Go.Sky

namespace Go.Sky

def linkB (b u : Int) : Bool := tick b && inR u 1 10000
def sentE (q : List Item) (b u : Int) : Int := firstE [(queueS q).2, errU (linkB b u) 2]
def zAt (q : List Item) (i : Nat) : Int := match q[i]? with | some x => x.z | none => 0
def sumTo (q : List Item) (O : List Nat) : Nat → Int
  | 0 => 0
  | j + 1 => sumTo q O j + zAt q (O.getD j 0)
def sentTo (q : List Item) (O : List Nat) (b u : Int) (n : Nat) : Nat → List Int
  | 0 => List.replicate n 0
  | j + 1 => (sentTo q O b u n j).set (O.getD j 0) (b + upS (sumTo q O (j + 1)) u)
theorem queueFrom_zero : ∀ (l pre : List Item) (i : Int), (queueFrom pre l i).2 = 0 → ∀ x ∈ l, rangeI x = true := by
  intro l
  induction l with
  | nil => intro pre i _ p hp; cases hp
  | cons y l ih =>
    intro pre i h x hx
    rw [queueFrom] at h
    by_cases hq : itemE pre y = 0
    · rw [if_pos hq] at h
      rcases List.mem_cons.1 hx with rfl | hx
      · exact (itemE_zero hq).2.2
      · exact ih _ _ h x hx
    · rw [if_neg hq] at h; exact absurd h hq
theorem queueS_range {q : List Item} (h : (queueS q).2 = 0) : ∀ x ∈ q, 1 ≤ x.z ∧ x.z ≤ 10000 := by
  have h20 := queueS_small h
  intro x hx
  unfold queueS at h
  rw [if_neg (by omega)] at h
  have := queueFrom_zero _ _ _ h x hx
  unfold rangeI at this
  simp [inR] at this
  omega
theorem zAt_of {q : List Item} {i : Nat} {x : Item} (h : q[i]? = some x) : zAt q i = x.z := by unfold zAt; rw [h]
theorem zAt_in {q : List Item} (h : (queueS q).2 = 0) (i : Nat) : 0 ≤ zAt q i ∧ zAt q i ≤ 10000 := by
  unfold zAt
  cases hx : q[i]? with
  | none => simp
  | some x => have := queueS_range h x (List.mem_of_getElem? hx); simp; omega
theorem sumTo_in {q : List Item} (h : (queueS q).2 = 0) (O : List Nat) : ∀ j : Nat, 0 ≤ sumTo q O j ∧ sumTo q O j ≤ 10000 * j
  | 0 => by simp [sumTo]
  | j + 1 => by
    have h1 := sumTo_in h O j
    have h2 := zAt_in h (O.getD j 0)
    rw [sumTo]
    omega
theorem sent_len (q : List Item) (O : List Nat) (b u : Int) (n : Nat) : ∀ j, (sentTo q O b u n j).length = n
  | 0 => by simp [sentTo]
  | j + 1 => by rw [sentTo, List.length_set, sent_len q O b u n j]
theorem sent_at {q : List Item} {O : List Nat} {b u : Int} {n : Nat} (hl : O.length = n) (hm : ∀ x ∈ O, x < n) (hnd : O.Nodup) : ∀ j, j ≤ n → ∀ i, i < j → (sentTo q O b u n j)[O.getD i 0]? = some (b + upS (sumTo q O (i + 1)) u)
  | 0, _, i, hi => by omega
  | j + 1, hj, i, hi => by
    rw [sentTo]
    have hjl : j < O.length := by omega
    have hil : i < O.length := by omega
    have ej : O.getD j 0 = O[j] := by rw [List.getD_eq_getElem?_getD, List.getElem?_eq_getElem hjl]; rfl
    have ei : O.getD i 0 = O[i] := by rw [List.getD_eq_getElem?_getD, List.getElem?_eq_getElem hil]; rfl
    by_cases he : i = j
    · subst he
      rw [List.getElem?_set_self (by rw [sent_len, ei]; exact hm _ (List.getElem_mem _))]
    · have hne : O.getD j 0 ≠ O.getD i 0 := by
        rw [ei, ej]
        intro h
        exact he ((List.getElem_inj hnd).1 h.symm)
      rw [List.getElem?_set_ne hne]
      exact sent_at hl hm hnd j (by omega) i (by omega)
theorem sortQ_nodup (q : List Item) (n : Nat) : (sortQ q n).Nodup := (sortQ_perm q n).nodup_iff.2 List.nodup_range
theorem up_law {s u : Int} (hu : 1 ≤ u) : s ≤ upS s u * u ∧ (upS s u - 1) * u < s ∧ upS s u * u ≤ s + u := by
  unfold upS
  have h1 := Int.mul_ediv_add_emod (s + u - 1) u
  have h2 := Int.emod_nonneg (s + u - 1) (show u ≠ 0 by omega)
  have h3 := Int.emod_lt_of_pos (s + u - 1) (show 0 < u by omega)
  rw [Int.sub_mul, Int.mul_comm _ u]
  omega
theorem up_in {s u : Int} (hs : 0 ≤ s) (hu : 1 ≤ u) : 0 ≤ upS s u ∧ upS s u ≤ s := by
  unfold upS
  refine ⟨Int.ediv_nonneg (by omega) (by omega), ?_⟩
  rcases Int.lt_or_le 0 s with h | h
  · have h2 : s + u - 1 ≤ s * u := by
      have := Int.mul_le_mul_of_nonneg_left (show (1 : Int) ≤ u from hu) (show (0 : Int) ≤ s - 1 by omega)
      have e : (s - 1) * u = s * u - u := by rw [Int.sub_mul, Int.one_mul]
      omega
    exact Int.ediv_le_of_le_mul (by omega) h2
  · have : s = 0 := by omega
    subst this
    rw [Int.ediv_eq_zero_of_lt (by omega) (by omega)]
    exact Int.le_refl _
end Go.Sky

namespace Go.Sky

theorem cut_iff {q : List Item} {i h : Nat} (hh : h < i) : befQ q i ((sortQ q i).getD h 0) = false ↔ h < cutI (befQ q i) (sortQ q i) i := by
  have hl := sortQ_len q i
  have hs := sortQ_sorted q i
  have hR := cutI_right (p := befQ q i) (R := sortQ q i) i
  have hL := cutI_left (p := befQ q i) (R := sortQ q i) i
  have hc := cutI_le (befQ q i) (sortQ q i) i
  obtain ⟨c, hcc⟩ : ∃ c, cutI (befQ q i) (sortQ q i) i = c := ⟨_, rfl⟩
  rw [hcc] at hR hL hc ⊢
  generalize sortQ q i = R at *
  have hp := List.pairwise_iff_getElem.1 hs
  constructor
  · intro h1
    rcases Nat.lt_or_ge h c with h2 | h2
    · exact h2
    · rw [hR h h2 hh] at h1; cases h1
  · intro h1
    have h2 := hL (by omega)
    by_cases he : h = c - 1
    · rw [he]; exact h2
    · cases h3 : befQ q i (R.getD h 0) with
      | false => rfl
      | true =>
        rw [List.getD_eq_getElem?_getD, List.getElem?_eq_getElem (by omega), Option.getD_some] at h2 h3
        have h4 := hp h (c - 1) (by omega) (by omega) (by omega)
        rw [bef_trans h3 h4] at h2
        cases h2
end Go.Sky

namespace Go.Sky

def addZ (s : Int) (x : Item) : Int := s + x.z
def totalI (xs : List Item) : Int := foldTo addZ 0 xs xs.length
theorem total_in {xs : List Item} (h : ∀ x ∈ xs, 0 ≤ x.z ∧ x.z ≤ 10000) : ∀ k : Nat, k ≤ xs.length → 0 ≤ foldTo addZ 0 xs k ∧ foldTo addZ 0 xs k ≤ 10000 * k
  | 0, _ => by rw [foldTo_zero]; omega
  | k + 1, hk => by
    have h1 := total_in h k (by omega)
    have h2 := h xs[k] (List.getElem_mem _)
    rw [foldTo_step _ _ _ _ _ (List.getElem?_eq_getElem (by omega))]
    unfold addZ
    unfold addZ at h1
    omega
/-- The last of the order. -/
def lastI (xs : List Item) : Nat := (sortQ xs xs.length).getD (xs.length - 1) 0
theorem lastI_lt {xs : List Item} (h : 0 < xs.length) : lastI xs < xs.length := getD_lt (by omega)
/-- Items are dropped until the rest has room. -/
def putTo (c : Int) : Nat → List Item → List ByteArray → List Item × List ByteArray
  | 0, xs, ds => (xs, ds)
  | f + 1, xs, ds => if c < totalI xs then putTo c f (xs.eraseIdx (lastI xs)) (ds ++ [((xs[lastI xs]?).getD ⟨.empty, 0, 0, 0⟩).n]) else (xs, ds)
theorem putTo_go {c : Int} {f : Nat} {xs : List Item} {ds : List ByteArray} {x : Item} (h : c < totalI xs) (hx : xs[lastI xs]? = some x) : putTo c (f + 1) xs ds = putTo c f (xs.eraseIdx (lastI xs)) (ds ++ [x.n]) := by
  rw [putTo, if_pos h, hx]
  rfl
theorem putTo_stop {c : Int} {f : Nat} {xs : List Item} {ds : List ByteArray} (h : ¬ c < totalI xs) : putTo c f xs ds = (xs, ds) := by
  cases f with
  | zero => rfl
  | succ f => rw [putTo, if_neg h]
theorem total_nil {xs : List Item} (h : xs.length = 0) : totalI xs = 0 := by
  rw [List.length_eq_zero_iff] at h
  subst h
  rfl
end Go.Sky
