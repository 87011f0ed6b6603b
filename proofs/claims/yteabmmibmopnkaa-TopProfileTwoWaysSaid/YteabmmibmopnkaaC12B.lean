/- Memory words of this family: new blocks only; a slice that reads as a list of elements of k cells; a slice that the call owns. Plain lemmas, no program.
   Plain functions of chapter 4 (traces, their lamination). No program.
   Plain laws of chapter 4: bounds of a lamination, a trace cut, a trace moved, heights. No program.
   Plain laws of chapter 4: cut and moved traces are valid; a lamination's beginning. No program. -/
import Derived.Deep.AppendLies
import Derived.Deep.Draws
import Derived.Lib.Hide
import Derived.WalkKit

namespace Go.Sky
open Go.RowKit

/-- The world W is w with new blocks (and draws): nothing that w held has turned. -/
def New (w W : World) : Prop := Below w.heap.size w W

section
variable {w W W' : World}
theorem New.refl (w : World) : New w w := Below.refl _ _
theorem New.size (h : New w W) : w.heap.size ≤ W.heap.size := Below.size h
theorem New.trans (h : New w W) (k : New W W') : New w W' := Below.trans h (Below.mono k h.size)
theorem New.alloc (h : New w W) (o : Obj) : New w (W.alloc o) := Below.alloc h h.size o
theorem hn2of {o : Obj} (h : New (w.alloc o) W) : New w W := Below.trans (Below.alloc (Below.refl _ _) (Nat.le_refl _) o) (Below.mono h (by simp))
theorem New.drew (h : New w W) : New w W.drew := Below.drew h
theorem New.drewN (h : New w W) (n : Nat) : New w (W.drewN n) := ⟨h.os, h.tape, h.output, h.size, h.block⟩
theorem New.setCell (h : New w W) {p : Addr} (hp : w.heap.size ≤ p.block) (u : Value) : New w (W.setCell p u) := Below.setCell h hp u
theorem New.grown (h : New w W) {row : Option Nat} (hg : W.grownBy W' row) (hr : ∀ k, row = some k → w.heap.size ≤ k) : New w W' := Below.grown h hg h.size hr
theorem New.cells (h : New w W) : ∀ b o, b < w.heap.size → W.cell? ⟨b, o, none⟩ = w.cell? ⟨b, o, none⟩ := fun b o hb => Below.cell (p := ⟨b, o, none⟩) h hb
theorem New.marks (h : New w W) : ∀ b o, b < w.heap.size → W.frozen? ⟨b, o, none⟩ = w.frozen? ⟨b, o, none⟩ := fun b o hb => Below.frozen (p := ⟨b, o, none⟩) h hb
theorem New.cell (h : New w W) {b o : Nat} {u : Value} (hc : w.cell? ⟨b, o, none⟩ = some u) : W.cell? ⟨b, o, none⟩ = some u :=
  (h.cells b o (World.block_lt_of_cell? w ⟨b, o, none⟩ hc)).trans hc
theorem New.heap (h : New w W) {b : Nat} {o : Obj} (hb : w.heap[b]? = some o) : W.heap[b]? = some o :=
  (Below.block h b (Array.getElem?_eq_some_iff.1 hb).1).trans hb
/-- Below a number that is not above the first world's size. -/
theorem New.below (h : New w W) {B : Nat} (hB : B ≤ w.heap.size) : Below B w W := Below.mono h hB
theorem New.of_below {B : Nat} (h : Below B w W) (hB : w.heap.size ≤ B) : New w W := Below.mono h hB
end

/-- A slice with the address A and n elements reads as xs: element i lies in k cells. -/
def Rd {α : Type} (w : World) (k : Nat) (enc : α → List Value) (A : Option Addr) (n : Nat) (xs : List α) : Prop :=
  xs.length = n ∧ (0 < n → ∃ b o, A = some ⟨b, o, none⟩ ∧ b < w.heap.size ∧ ∀ i x, xs[i]? = some x → ∀ j u, (enc x)[j]? = some u → w.cell? ⟨b, o + i * k + j, none⟩ = some u)

section
variable {α : Type} {w W : World} {k n : Nat} {enc : α → List Value} {A : Option Addr} {xs : List α}
theorem Rd.len (h : Rd w k enc A n xs) : xs.length = n := h.1
theorem Rd.nil (w : World) (k : Nat) (enc : α → List Value) (A : Option Addr) : Rd w k enc A 0 [] := ⟨rfl, fun h => absurd h (by omega)⟩
theorem Rd.keep (h : Rd w k enc A n xs) (hw : New w W) : Rd W k enc A n xs :=
  ⟨h.1, fun hn => by
    obtain ⟨b, o, e, hb, hc⟩ := h.2 hn
    exact ⟨b, o, e, Nat.lt_of_lt_of_le hb hw.size, fun i x hx j u hu => (hw.cells _ _ hb).trans (hc i x hx j u hu)⟩⟩
theorem Rd.at_ (h : Rd w k enc A n xs) {i : Nat} (hi : i < n) :
    ∃ b o x, A = some ⟨b, o, none⟩ ∧ b < w.heap.size ∧ xs[i]? = some x ∧ ∀ j u, (enc x)[j]? = some u → w.cell? ⟨b, o + i * k + j, none⟩ = some u := by
  obtain ⟨b, o, e, hb, hc⟩ := h.2 (by omega)
  have hl : i < xs.length := by have := h.1; omega
  exact ⟨b, o, xs[i], e, hb, List.getElem?_eq_getElem hl, hc i _ (List.getElem?_eq_getElem hl)⟩
theorem Rd.take {m : Nat} (h : Rd w k enc A n xs) (hm : m ≤ n) : Rd w k enc A m (xs.take m) :=
  ⟨by rw [List.length_take, h.1]; omega, fun hn => by
    obtain ⟨b, o, e, hb, hc⟩ := h.2 (by omega)
    refine ⟨b, o, e, hb, fun i x hx => hc i x ?_⟩
    rw [List.getElem?_take] at hx
    split at hx
    · exact hx
    · cases hx⟩
theorem Rd.some_ (h : Rd w k enc A n xs) (hn : 0 < n) : ∃ b o, A = some ⟨b, o, none⟩ ∧ b < w.heap.size ∧ ∀ i x, xs[i]? = some x → ∀ j u, (enc x)[j]? = some u → w.cell? ⟨b, o + i * k + j, none⟩ = some u := h.2 hn
end

/-- The same slice, owned by the call: nil, or at the head of a block from 'base' on. -/
def Own {α : Type} (w : World) (base : Nat) (e : TypeId) (k : Nat) (enc : α → List Value) (A : Option Addr) (n cap : Nat) (xs : List α) : Prop :=
  xs.length = n ∧ (∀ x, (enc x).length = k) ∧ w.ownsRow base e k (.slice A n cap) n (xs.flatMap enc)

theorem flat_len {α : Type} {k : Nat} {enc : α → List Value} (hk : ∀ x, (enc x).length = k) (xs : List α) : (xs.flatMap enc).length = xs.length * k := by
  induction xs with
  | nil => simp
  | cons x xs ih => simp [ih, hk, Nat.add_mul]; omega

theorem flat_at {α : Type} {k : Nat} {enc : α → List Value} (hk : ∀ x, (enc x).length = k) : ∀ (xs : List α) (i : Nat) (x : α), xs[i]? = some x → ∀ j u, (enc x)[j]? = some u → (xs.flatMap enc)[i * k + j]? = some u := by
  intro xs
  induction xs with
  | nil => intro i x h; simp at h
  | cons y ys ih =>
    intro i x h j u hu
    have hj : j < k := by rw [← hk x]; exact (List.getElem?_eq_some_iff.1 hu).1
    cases i with
    | zero =>
      simp at h; subst h
      simp only [Nat.zero_mul, Nat.zero_add, List.flatMap_cons]
      rw [List.getElem?_append_left (by rw [hk]; exact hj)]
      exact hu
    | succ i =>
      simp at h
      rw [List.flatMap_cons, List.getElem?_append_right (by rw [hk, Nat.add_mul]; omega), hk]
      rw [show (i + 1) * k + j - k = i * k + j by rw [Nat.add_mul]; omega]
      exact ih i x h j u hu

section
variable {α : Type} {w W : World} {base e k n cap : Nat} {enc : α → List Value} {A : Option Addr} {xs : List α}
theorem Own.len (h : Own w base e k enc A n cap xs) : xs.length = n := h.1
theorem Own.nil (w : World) (base e k : Nat) {enc : α → List Value} (hk : ∀ x, (enc x).length = k) : Own w base e k enc none 0 0 [] := ⟨rfl, hk, World.ownsRow_nil _ _ _ _⟩
theorem Own.form (h : Own w base e k enc A n cap xs) : (A = none ∧ n = 0 ∧ cap = 0 ∧ xs = []) ∨ ∃ g, A = some ⟨g, 0, none⟩ ∧ base ≤ g ∧ g < w.heap.size ∧ n ≤ cap ∧ cap ≤ maxLen := by
  rcases h.2.2.2 with ⟨hv, h0⟩ | ⟨g, c, cur, hv, hb, hg, hn, hm, _⟩
  · left
    injection hv with h1 h2 h3
    exact ⟨h1, h2, h3, List.eq_nil_of_length_eq_zero (by rw [h.1]; exact h2)⟩
  · right
    injection hv with h1 h2 h3
    exact ⟨g, h1, hb, (Array.getElem?_eq_some_iff.1 hg).1, by omega, by omega⟩
theorem Own.le (h : Own w base e k enc A n cap xs) : n ≤ cap ∧ cap ≤ maxLen := by
  rcases h.form with ⟨_, h1, h2, _⟩ | ⟨g, _, _, _, h1, h2⟩
  · subst h1 h2; exact ⟨Nat.le_refl _, Nat.zero_le _⟩
  · exact ⟨h1, h2⟩
theorem Own.row (h : Own w base e k enc A n cap xs) : w.ownsRow base e k (.slice A n cap) n (xs.flatMap enc) := h.2.2
theorem Own.rd (h : Own w base e k enc A n cap xs) : Rd w k enc A n xs := by
  refine ⟨h.1, fun hn => ?_⟩
  rcases h.form with ⟨_, h1, _⟩ | ⟨g, hA, _, hlt, _⟩
  · omega
  · subst hA
    refine ⟨g, 0, rfl, hlt, fun i x hx j u hu => ?_⟩
    have hc := h.2.2.cells (g := g) rfl (i * k + j) u (flat_at h.2.1 xs i x hx j u hu)
    have ha : (⟨g, 0, none⟩ : Addr).add (i * k + j) = ⟨g, 0 + i * k + j, none⟩ := by
      unfold Addr.add
      split
      · rename_i h0
        rw [show 0 + i * k + j = 0 by omega]
      · simp
    rw [ha] at hc
    exact hc
theorem Own.kept {row : Option Nat} (h : Own w base e k enc A n cap xs) (hg : w.grownBy W row) (hne : A.map (·.block) = none ∨ A.map (·.block) ≠ row) : Own W base e k enc A n cap xs :=
  ⟨h.1, h.2.1, h.2.2.kept hg (by cases A <;> simp_all [Value.ownBlock])⟩
theorem Own.alloc (h : Own w base e k enc A n cap xs) (o : Obj) : Own (w.alloc o) base e k enc A n cap xs := ⟨h.1, h.2.1, h.2.2.alloc o⟩
theorem Own.drew (h : Own w base e k enc A n cap xs) : Own w.drew base e k enc A n cap xs := ⟨h.1, h.2.1, h.2.2⟩
theorem Own.drewN (h : Own w base e k enc A n cap xs) (m : Nat) : Own (w.drewN m) base e k enc A n cap xs := ⟨h.1, h.2.1, h.2.2⟩
theorem Own.keep (h : Own w base e k enc A n cap xs) (hw : New w W) : Own W base e k enc A n cap xs :=
  h.kept (row := none) ⟨hw.os, hw.tape, hw.output, hw.size, fun b hb _ => hw.block b hb⟩ (by cases A <;> simp)
theorem Own.base_le {base' : Nat} (h : Own w base e k enc A n cap xs) (hb : base' ≤ base) : Own w base' e k enc A n cap xs := by
  refine ⟨h.1, h.2.1, h.2.2.1, ?_⟩
  rcases h.2.2.2 with h0 | ⟨g, c, cur, hv, hg, r⟩
  · exact .inl h0
  · exact .inr ⟨g, c, cur, hv, by omega, r⟩
/-- A store elsewhere. -/
theorem Own.setOther (h : Own w base e k enc A n cap xs) {p : Addr} (hp : A.map (·.block) ≠ some p.block) (u : Value) : Own (w.setCell p u) base e k enc A n cap xs :=
  h.kept (row := some p.block) ⟨rfl, rfl, rfl, by simp [World.setCell], fun b hb hne => Below.heap_setCell _ _ _ _ (by intro e; subst e; exact hne rfl)⟩ (.inr hp)
/-- What was grown by a row of one's own is new to a world that lacks the row. -/
theorem New.grownOwn {w0 : World} (hn : New w0 w) (h : Own w base e k enc A n cap xs) (hb : w0.heap.size ≤ base) (hg : w.grownBy W (A.map (·.block))) : New w0 W :=
  hn.grown hg fun b hb' => by
    rcases h.form with ⟨rfl, _⟩ | ⟨g, rfl, hg', _⟩
    · simp at hb'
    · simp at hb'; omega
end

/-- Block b is just the cells cs of type t, none frozen. -/
def Bx (w : World) (b : Nat) (t : TypeId) (cs : Array Value) : Prop := w.heap[b]? = some (.cells cs t (0, 0))
section
variable {w W : World} {b : Nat} {t : TypeId} {cs : Array Value}
theorem Bx.lt (h : Bx w b t cs) : b < w.heap.size := (Array.getElem?_eq_some_iff.1 h).1
theorem Bx.cell (h : Bx w b t cs) (i : Nat) : w.cell? ⟨b, i, none⟩ = cs[i]? := cell_of_row w b i cs t (0, 0) h
theorem Bx.free (h : Bx w b t cs) (i : Nat) : w.frozen? ⟨b, i, none⟩ = false := by
  unfold Bx at h
  simp [World.frozen?, h]
theorem Bx.mk (w : World) (t : TypeId) (cs : Array Value) : Bx (w.alloc (.cells cs t)) w.heap.size t cs := heap_alloc_new w _
theorem Bx.mk_at (w : World) (t : TypeId) (cs : Array Value) (b : Nat) (hb : b = w.heap.size) : Bx (w.alloc (.cells cs t)) b t cs := hb ▸ Bx.mk w t cs
theorem Bx.drew (h : Bx w b t cs) : Bx w.drew b t cs := h
theorem Bx.drewN (h : Bx w b t cs) (n : Nat) : Bx (w.drewN n) b t cs := h
theorem Bx.alloc (h : Bx w b t cs) (o : Obj) : Bx (w.alloc o) b t cs := (Below.heap_alloc w o b h.lt).trans h
theorem Bx.set (h : Bx w b t cs) (i : Nat) (u : Value) : Bx (w.setCell ⟨b, i, none⟩ u) b t (cs.setIfInBounds i u) := by
  unfold Bx at h ⊢
  simp [World.setCell, Array.getElem?_modify, h]
theorem Bx.far (h : Bx w b t cs) {p : Addr} (hp : b ≠ p.block) (u : Value) : Bx (w.setCell p u) b t cs := (Below.heap_setCell w p u b hp).trans h
theorem Bx.keep (h : Bx w b t cs) (hn : New w W) : Bx W b t cs := hn.heap h
theorem Bx.grown {row : Option Nat} (h : Bx w b t cs) (hg : w.grownBy W row) (hne : some b ≠ row) : Bx W b t cs := (hg.block b h.lt hne).trans h
theorem Bx.below {B : Nat} (h : Bx w b t cs) (hb : Below B w W) (hlt : b < B) : Bx W b t cs := (hb.block b hlt).trans h
end

/-- append of one element: at a plain region's list. -/
theorem wpList_push {P : Program} (w : World) {ops : Array Oper} {rest : List Oper} {o : Oper} {a : Act} {Q : Exit → Act → World → Prop} (hgd : o.guard = none) (s x : Operand) (t : TypeId)
    (ho : o.op = .call { callee := .builtin .append, args := #[s, x], argTypes := #[t, t] })
    {α : Type} (e : TypeId) (i : TypeInfo) (z : Value) (k bytes : Nat) (ht : P.underlying t = some (.slice e)) (hi : P.info? e = some i) (hz : i.zero = some z)
    (hsize : i.size = k) (hby : i.bytes = bytes) (hzs : z.cells.size = k) (hsz : 0 < k)
    (base : Nat) (enc : α → List Value) (A : Option Addr) (n cap : Nat) (xs : List α) (hs : a.eval s = .slice A n cap) (hown : Own w base e k enc A n cap xs)
    (B m c : Nat) (ys : List α) (hx : a.eval x = .slice (some ⟨B, 0, none⟩) m c) (hm : ys.length = m) (hm0 : 0 < m) (hnews : ∀ j u, (ys.flatMap enc)[j]? = some u → w.cell? ⟨B, j, none⟩ = some u) (h1 : ∀ x, ∀ u ∈ enc x, u.oneCell' = true)
    (h63 : n + m ≤ maxLen) (hbytes : (n + m) * bytes ≤ 140737488355328) (hbase : base ≤ w.heap.size)
    (h : ∀ g cap' w', Own w' base e k enc (some ⟨g, 0, none⟩) (n + m) cap' (xs ++ ys) → w.grownBy w' (A.map (·.block)) → (A.map (·.block) = some g ∨ g = w.heap.size) → base ≤ g → g < w'.heap.size → (∀ w0, New w0 w → w0.heap.size ≤ base → New w0 w') →
      wpList P ops Q rest (a.put o.dst (.slice (some ⟨g, 0, none⟩) (n + m) cap')) w') : wpList P ops Q (o :: rest) a w := by
  refine wpList_append_lies w hgd s x t ho base e i z k bytes ht hi hz hsize hby hzs hsz _ n _ hs hown.2.2 ⟨B, 0, none⟩ m c (ys.flatMap enc) hx (by rw [flat_len hown.2.1, hm]) ?_ ?_ hm0 h63 hbytes hbase _ rfl ?_
  · intro j u hu
    have hadd : (⟨B, 0, none⟩ : Addr).add j = ⟨B, j, none⟩ := by unfold Addr.add; split <;> simp_all
    rw [hadd]
    exact hnews j u hu
  · intro u hu
    obtain ⟨x, _, hux⟩ := List.mem_flatMap.1 hu
    exact h1 x u hux
  · intro g cap' w' hrow hgrow hat hlt
    have hOb : Value.ownBlock (.slice A n cap) = A.map (·.block) := by cases A <;> rfl
    rw [hOb] at hgrow hat
    have hb : base ≤ g := by
      rcases hrow.2 with ⟨hv, _⟩ | ⟨g', c', cur, hv, hb, _⟩
      · cases hv
      · injection hv with h1 _ _
        injection h1 with h1
        injection h1 with h1
        omega
    exact h g cap' w' ⟨by rw [List.length_append, hown.1, hm], hown.2.1, by rw [List.flatMap_append]; exact hrow⟩ hgrow hat hb hlt (fun w0 hn hb0 => hn.grownOwn hown hb0 hgrow)

/-- A store below the call's own blocks. -/
theorem Own.setBelow {α : Type} {w : World} {base e k n cap : Nat} {enc : α → List Value} {A : Option Addr} {xs : List α} (h : Own w base e k enc A n cap xs) {p : Addr} (hp : p.block < base) (u : Value) : Own (w.setCell p u) base e k enc A n cap xs :=
  h.setOther (by
    rcases h.form with ⟨rfl, _⟩ | ⟨g, rfl, hg, _⟩
    · simp
    · simp; omega) u

theorem flat_set {α : Type} {k c : Nat} {enc : α → List Value} {u : Value} (hk : ∀ x, (enc x).length = k) : ∀ (xs : List α) (j : Nat) (x y : α), xs[j]? = some x → enc y = (enc x).set c u → c < k →
    (xs.set j y).flatMap enc = (xs.flatMap enc).set (j * k + c) u := by
  intro xs
  induction xs with
  | nil => intro j x y h; simp at h
  | cons z zs ih =>
    intro j x y h hy hc
    cases j with
    | zero =>
      simp at h; subst h
      simp only [List.set_cons_zero, List.flatMap_cons, Nat.zero_mul, Nat.zero_add]
      rw [List.set_append_left _ _ (by rw [hk]; exact hc), hy]
    | succ j =>
      simp at h
      simp only [List.set_cons_succ, List.flatMap_cons]
      rw [ih j x y h hy hc, List.set_append_right _ _ (by rw [hk, Nat.add_mul]; omega), hk]
      rw [show (j + 1) * k + c - k = j * k + c by rw [Nat.add_mul]; omega]

/-- A store into an element of an owned slice. -/
theorem Own.setAt {α : Type} {w : World} {base e k n cap : Nat} {enc : α → List Value} {g : Nat} {xs : List α} (h : Own w base e k enc (some ⟨g, 0, none⟩) n cap xs)
    (j c : Nat) (x y : α) (u : Value) (hx : xs[j]? = some x) (hy : enc y = (enc x).set c u) (hc : c < k) (o : Nat) (ho : o = j * k + c) : Own (w.setCell ⟨g, o, none⟩ u) base e k enc (some ⟨g, 0, none⟩) n cap (xs.set j y) := by
  subst ho
  refine ⟨by rw [List.length_set]; exact h.1, h.2.1, ?_, ?_⟩
  · rw [flat_len h.2.1, List.length_set, h.1]
  · rcases h.2.2.2 with ⟨hv, _⟩ | ⟨g', c', cur, hv, hb, hg, hn, hm, hs, ht⟩
    · cases hv
    · right
      have hgg : g' = g := by injection hv with h1 _ _; injection h1 with h1; injection h1 with h1; exact h1.symm
      subst hgg
      refine ⟨g', c', cur.setIfInBounds (j * k + c) u, hv, hb, ?_, hn, hm, by simp [hs], ?_⟩
      · simp [World.setCell, Array.getElem?_modify, hg]
      · rw [flat_set h.2.1 xs j x y hx hy hc, ← ht, Array.toList_setIfInBounds, List.take_set]
theorem Own.set1 {α : Type} {w : World} {base e n cap : Nat} {enc : α → List Value} {g : Nat} {xs : List α} (h : Own w base e 1 enc (some ⟨g, 0, none⟩) n cap xs)
    (j : Nat) (y : α) (u : Value) (hj : j < n) (hy : enc y = [u]) : Own (w.setCell ⟨g, j, none⟩ u) base e 1 enc (some ⟨g, 0, none⟩) n cap (xs.set j y) := by
  have hjl : j < xs.length := by rw [h.1]; exact hj
  refine h.setAt j 0 xs[j] y u (List.getElem?_eq_getElem hjl) ?_ (by omega) j (by omega)
  rw [hy]
  have h1 := h.2.1 xs[j]
  match hq : enc xs[j], h1 with
  | [a], _ => rfl
theorem Own.free {α : Type} {w : World} {base e k n cap : Nat} {enc : α → List Value} {g : Nat} {xs : List α} (h : Own w base e k enc (some ⟨g, 0, none⟩) n cap xs) (o : Nat) : w.frozen? ⟨g, o, none⟩ = false := by
  rcases h.2.2.2 with ⟨hv, _⟩ | ⟨g', c', cur, hv, hb, hg, _⟩
  · cases hv
  · injection hv with h1 _ _; injection h1 with h1; injection h1 with h1
    subst h1
    simp [World.frozen?, hg]
theorem Own.cell1 {α : Type} {w : World} {base e n cap : Nat} {enc : α → List Value} {g : Nat} {xs : List α} (h : Own w base e 1 enc (some ⟨g, 0, none⟩) n cap xs) (j : Nat) (x : α) (u : Value) (hx : xs[j]? = some x) (hu : enc x = [u]) : w.cell? ⟨g, j, none⟩ = some u := by
  have hn : 0 < n := by have := (List.getElem?_eq_some_iff.1 hx).1; rw [h.1] at this; omega
  obtain ⟨b, o, hA, _, hc⟩ := h.rd.some_ hn
  injection hA with hA
  injection hA with h1 h2
  subst h1 h2
  have := hc j x hx 0 u (by rw [hu]; rfl)
  rw [show 0 + j * 1 + 0 = j by omega] at this
  exact this

theorem run_append_of_nil {P : Program} (w : World) (base : Nat) (t ty e : TypeId) (i : TypeInfo) (size : Nat) (ht : P.underlying t = some (.slice e)) (hi : P.info? e = some i)
    (v : Value) (n : Nat) (xs : List Value) (hown : w.ownsRow base e size v n xs) (c : Nat) : (Builtin.append_ #[t, t] ty #[v, .slice none 0 c]).run P w = .ok v w := by
  rcases hown.2 with ⟨rfl, rfl⟩ | ⟨g, cap, cur, rfl, _, _, hnc, _⟩
  · simp [Builtin.append_, run_underlying ht, sizeOf, typeInfo, hi, Builtin.lenOf, Builtin.firstCells]
  · simp [Builtin.append_, run_underlying ht, sizeOf, typeInfo, hi, Builtin.lenOf, Builtin.firstCells, hnc, storeCells]

/-- append of a whole slice, wherever it lies: at a plain region's list. -/
theorem wpList_pour {P : Program} (w : World) {ops : Array Oper} {rest : List Oper} {o : Oper} {a : Act} {Q : Exit → Act → World → Prop} (hgd : o.guard = none) (s x : Operand) (t : TypeId)
    (ho : o.op = .call { callee := .builtin .append, args := #[s, x], argTypes := #[t, t] })
    {α : Type} (e : TypeId) (i : TypeInfo) (z : Value) (k bytes : Nat) (ht : P.underlying t = some (.slice e)) (hi : P.info? e = some i) (hz : i.zero = some z)
    (hsize : i.size = k) (hby : i.bytes = bytes) (hzs : z.cells.size = k) (hsz : 0 < k)
    (base : Nat) (enc : α → List Value) (A : Option Addr) (n cap : Nat) (xs : List α) (hs : a.eval s = .slice A n cap) (hown : Own w base e k enc A n cap xs)
    (B : Option Addr) (m c : Nat) (ys : List α) (hx : a.eval x = .slice B m c) (hr : Rd w k enc B m ys) (h1 : ∀ x, ∀ u ∈ enc x, u.oneCell' = true)
    (h63 : n + m ≤ maxLen) (hbytes : (n + m) * bytes ≤ 140737488355328) (hbase : base ≤ w.heap.size)
    (h : ∀ A' cap' w', Own w' base e k enc A' (n + m) cap' (xs ++ ys) → w.grownBy w' (A.map (·.block)) → (∀ w0, New w0 w → w0.heap.size ≤ base → New w0 w') →
      wpList P ops Q rest (a.put o.dst (.slice A' (n + m) cap')) w') : wpList P ops Q (o :: rest) a w := by
  refine wpList_plain hgd fun K hK => ?_
  have hOb : Value.ownBlock (.slice A n cap) = A.map (·.block) := by cases A <;> rfl
  suffices hrun : ∃ A' cap' w', (Builtin.append_ #[t, t] o.type #[.slice A n cap, .slice B m c]).run P w = .ok (.slice A' (n + m) cap') w' ∧ Own w' base e k enc A' (n + m) cap' (xs ++ ys) ∧ w.grownBy w' (A.map (·.block)) by
    obtain ⟨A', cap', w', hr, h2, h3⟩ := hrun
    unfold Oper.wp execOp
    simp only [ho, resolve, invoke, builtin, Sem.run_bind, Sem.run_pure, Result.andThen_ok, List.map_toArray, List.map_cons, List.map_nil, hs, hx, hr]
    exact hK _ _ (h A' cap' w' h2 h3 (fun w0 hn hb0 => hn.grownOwn hown hb0 h3))
  rcases B with _ | ad
  · have hm : m = 0 := by
      rcases Nat.eq_zero_or_pos m with h0 | h0
      · exact h0
      · obtain ⟨b, o, e, _⟩ := hr.2 h0; cases e
    subst hm
    have hys : ys = [] := List.eq_nil_of_length_eq_zero hr.1
    subst hys
    exact ⟨A, cap, w, run_append_of_nil w base t o.type e i k ht hi _ n _ hown.2.2 c, by simpa using hown, World.grownBy.refl w _⟩
  · have hnews : ∀ j u, (ys.flatMap enc)[j]? = some u → w.cell? (ad.add j) = some u := by
      intro j u hu
      rcases Nat.eq_zero_or_pos m with h0 | h0
      · subst h0
        have hys : ys = [] := List.eq_nil_of_length_eq_zero hr.1
        subst hys
        simp at hu
      · obtain ⟨b, o', e', _, hc⟩ := hr.2 h0
        injection e' with e'
        subst e'
        have hlen := flat_len hown.2.1 ys
        have hj : j < ys.length * k := by rw [← hlen]; exact (List.getElem?_eq_some_iff.1 hu).1
        have hdm := Nat.div_add_mod j k
        have hjk : j / k < ys.length := Nat.div_lt_of_lt_mul (by rw [Nat.mul_comm]; exact hj)
        have hmod : j % k < (enc ys[j / k]).length := by rw [hown.2.1]; exact Nat.mod_lt _ hsz
        have h2 := flat_at hown.2.1 ys (j / k) ys[j / k] (List.getElem?_eq_getElem hjk) (j % k) _ (List.getElem?_eq_getElem hmod)
        have hjj : j / k * k + j % k = j := by rw [Nat.mul_comm]; exact hdm
        rw [hjj, hu] at h2
        injection h2 with h2
        have h3 := hc (j / k) _ (List.getElem?_eq_getElem hjk) (j % k) _ (List.getElem?_eq_getElem hmod)
        rw [← h2] at h3
        rw [show o' + j / k * k + j % k = o' + j by omega] at h3
        unfold Addr.add
        split
        · rename_i hj0; subst hj0; exact h3
        · exact h3
    obtain ⟨v', w', hrun, h2, h3, _, _⟩ := run_append_own_at (P := P) w base t o.type e i z k bytes ht hi hz hsize hby hzs hsz _ n _ hown.2.2 ad m c (ys.flatMap enc) (by rw [flat_len hown.2.1, hr.1]) hnews
      (by intro u hu; obtain ⟨x, _, hux⟩ := List.mem_flatMap.1 hu; exact h1 x u hux) h63 hbytes hbase
    have hv : ∃ A' cap', v' = .slice A' (n + m) cap' := by
      rcases h2.2 with ⟨hv, h0⟩ | ⟨g, cp, cur, hv, _⟩
      · exact ⟨none, 0, by rw [h0]; exact hv⟩
      · exact ⟨_, cp, hv⟩
    obtain ⟨A', cap', rfl⟩ := hv
    rw [hOb] at h3
    exact ⟨A', cap', w', hrun, ⟨by rw [List.length_append, hown.1, hr.1], hown.2.1, by rw [List.flatMap_append]; exact h2⟩, h3⟩

/-- An empty slice that is not nil. -/
theorem Own.empty {α : Type} (w : World) (base e k : Nat) {enc : α → List Value} (hk : ∀ x, (enc x).length = k) (b : Nat) (hb : b = w.heap.size) (hbase : base ≤ b) : Own (w.alloc (.cells #[] e)) base e k enc (some ⟨b, 0, none⟩) 0 0 [] := by
  subst hb
  exact ⟨rfl, hk, World.ownsRow_made w #[] 0 hbase (Nat.zero_le _) (by simp)⟩

/-- 'make([]T, n)', elements of one cell: at a plain region's list. -/
theorem wpList_mk {P : Program} (w : World) {ops : Array Oper} {rest : List Oper} {o : Oper} {a : Act} {Q : Exit → Act → World → Prop} (hg : o.guard = none) (l c : Operand) (t : TypeId) (hop : o.op = Op.makeSlice t l c)
    {α : Type} (base : Nat) (e : TypeId) (i : TypeInfo) (z : Value) (h1 : P.underlying t = some (.slice e)) (h2 : P.info? e = some i) (h3 : i.zero = some z) (h4 : i.size = 1) (hz : z.cells = #[z])
    (enc : α → List Value) (hk : ∀ x, (enc x).length = 1) (x0 : α) (hx0 : enc x0 = [z])
    (n : Nat) (hl : a.eval l = .int .i64 (n : Int)) (hc : a.eval c = .int .i64 (n : Int)) (b2 : i.bytes * n ≤ 281474976710656) (b3 : n ≤ maxLen) (b4 : base ≤ w.heap.size)
    (h : ∀ w', Own w' base e 1 enc (some ⟨w.heap.size, 0, none⟩) n n (List.replicate n x0) → New w w' → w.heap.size < w'.heap.size → wpList P ops Q rest (a.put o.dst (.slice (some ⟨w.heap.size, 0, none⟩) n n)) w') : wpList P ops Q (o :: rest) a w :=
  wpList_make_full w hg l c t hop base e i z 1 h1 h2 h3 h4 .i64 .i64 n n n hl hc rfl rfl b2 b3 b4 fun w' hrow hgrow => by
    have hf : (List.replicate n x0).flatMap enc = (madeCells z.cells (n * 1)).toList := by
      rw [hz, Nat.mul_one, toList_madeCells_one]
      clear hl hc b2 b3 hrow h
      induction n with
      | zero => rfl
      | succ n ih => rw [List.replicate_succ, List.replicate_succ, List.flatMap_cons, ih, hx0]; rfl
    have hown : Own w' base e 1 enc (some ⟨w.heap.size, 0, none⟩) n n (List.replicate n x0) := ⟨by simp, hk, by rw [hf]; exact hrow⟩
    refine h w' hown ((New.refl w).grown hgrow (fun k hk => by cases hk)) ?_
    rcases hown.form with ⟨hA, _⟩ | ⟨g, hA, _, hlt, _⟩
    · cases hA
    · injection hA with hA; injection hA with hA; rw [hA]; exact hlt

def encB (c : UInt8) : List Value := [.int .u8 (c.toNat : Int)]

/-- '[]byte(s)': at a plain region's list. -/
theorem wpList_bytes {P : Program} (w : World) {ops : Array Oper} {rest : List Oper} {o : Oper} {a : Act} {Q : Exit → Act → World → Prop} (hgd : o.guard = none) (x : Operand) (src dst e : TypeId)
    (ho : o.op = .convert src dst x) (hs : P.underlying src = some .string) (hd : P.underlying dst = some (.slice e)) (he : P.underlying e = some (.int .u8)) (s : ByteArray) (hx : a.eval x = .string s)
    (h : ∀ g cap w', New w w' → Rd w' 1 encB (some ⟨g, 0, none⟩) s.size s.data.toList → w.heap.size ≤ g → wpList P ops Q rest (a.put o.dst (.slice (some ⟨g, 0, none⟩) s.size cap)) w') : wpList P ops Q (o :: rest) a w := by
  refine wpList_plain hgd fun K hK => ?_
  unfold Oper.wp execOp
  have hrun := run_bytes_of_string (P := P) w src dst e s hs hd he
  simp only [ho, hx, Sem.run_bind, hrun, Result.andThen_ok, Sem.run_pure]
  refine hK _ _ (h _ _ _ (((New.refl w).drew).alloc _) ⟨by simp, fun hn => ⟨w.heap.size, 0, rfl, by simp, fun i c hc j u hu => ?_⟩⟩ (Nat.le_refl _))
  have hj : j = 0 := by
    rcases j with _ | j
    · rfl
    · simp [encB] at hu
  subst hj
  simp [encB] at hu
  subst hu
  have hi := (List.getElem?_eq_some_iff.1 hc).1
  have hg : (w.drew.alloc (.cells (bytesRow s (grownCap w s.size 0 e)) e ((bytesRow s (grownCap w s.size 0 e)).size, (bytesRow s (grownCap w s.size 0 e)).size + 1))).heap[w.heap.size]? = some (.cells (bytesRow s (grownCap w s.size 0 e)) e ((bytesRow s (grownCap w s.size 0 e)).size, (bytesRow s (grownCap w s.size 0 e)).size + 1)) := heap_alloc_new w.drew _
  rw [cell_of_row _ _ _ _ _ _ hg]
  have hi2 : i < s.data.size := by simpa using hi
  have hc2 : s.data[i] = c := by
    have := (List.getElem?_eq_some_iff.1 hc).2
    simpa using this
  rw [show 0 + i * 1 + 0 = i by omega]
  unfold bytesRow
  rw [Array.getElem?_append_left (by simpa using hi2), Array.getElem?_map, Array.getElem?_eq_getElem hi2, hc2]
  rfl

theorem take_map_succ {α β : Type} (f : α → β) (xs : List α) (j : Nat) (x : α) (h : xs[j]? = some x) : (xs.map f).take (j + 1) = (xs.map f).take j ++ [f x] := by
  obtain ⟨hk, rfl⟩ := List.getElem?_eq_some_iff.1 h
  rw [List.take_succ_eq_append_getElem (by simpa using hk)]
  simp
theorem take_all_map {α β : Type} (f : α → β) (xs : List α) (j : Nat) (h : xs.length ≤ j) : (xs.map f).take j = xs.map f := List.take_of_length_le (by simpa using h)
theorem take_snoc {α : Type} (xs : List α) (j : Nat) (x : α) (h : xs[j]? = some x) : xs.take (j + 1) = xs.take j ++ [x] := by
  obtain ⟨hk, rfl⟩ := List.getElem?_eq_some_iff.1 h
  rw [List.take_succ_eq_append_getElem hk]

end Go.Sky

namespace Go.Sky

/-! ### Roots by search, indexes -/
def bsr (n : Int) : Nat → Int → Int → Int
  | 0, lo, _ => lo
  | k + 1, lo, hi => if lo < hi then (if ((lo + hi + 1) / 2) * ((lo + hi + 1) / 2) ≤ n then bsr n k ((lo + hi + 1) / 2) hi else bsr n k lo ((lo + hi + 1) / 2 - 1)) else lo
def rootS (n : Int) : Int := bsr n 32 0 2147483648
theorem bsr_end {n lo hi : Int} (h : hi ≤ lo) : ∀ k, bsr n k lo hi = lo
  | 0 => rfl
  | k + 1 => by rw [bsr, if_neg (by omega)]
theorem bsr_up {n lo hi : Int} {k : Nat} (h : lo < hi) (h2 : ((lo + hi + 1) / 2) * ((lo + hi + 1) / 2) ≤ n) : bsr n (k + 1) lo hi = bsr n k ((lo + hi + 1) / 2) hi := by rw [bsr, if_pos h, if_pos h2]
theorem bsr_down {n lo hi : Int} {k : Nat} (h : lo < hi) (h2 : ¬ ((lo + hi + 1) / 2) * ((lo + hi + 1) / 2) ≤ n) : bsr n (k + 1) lo hi = bsr n k lo ((lo + hi + 1) / 2 - 1) := by rw [bsr, if_pos h, if_neg h2]
theorem bsr_law {n : Int} : ∀ (k : Nat) (lo hi : Int), 0 ≤ lo → lo ≤ hi → hi - lo < 2 ^ k → lo * lo ≤ n → n < (hi + 1) * (hi + 1) → 0 ≤ bsr n k lo hi ∧ bsr n k lo hi * bsr n k lo hi ≤ n ∧ n < (bsr n k lo hi + 1) * (bsr n k lo hi + 1)
  | 0, lo, hi, h0, h1, h2, h3, h4 => by
    have : hi = lo := by simp at h2; omega
    subst this
    exact ⟨h0, h3, h4⟩
  | k + 1, lo, hi, h0, h1, h2, h3, h4 => by
    have hp : (2 : Int) ^ (k + 1) = 2 * 2 ^ k := by rw [Int.pow_succ]; omega
    by_cases h : lo < hi
    · by_cases hm : ((lo + hi + 1) / 2) * ((lo + hi + 1) / 2) ≤ n
      · rw [bsr_up h hm]
        exact bsr_law k _ hi (by omega) (by omega) (by omega) hm h4
      · rw [bsr_down h hm]
        refine bsr_law k lo _ h0 (by omega) (by omega) h3 ?_
        rw [show (lo + hi + 1) / 2 - 1 + 1 = (lo + hi + 1) / 2 by omega]
        omega
    · rw [bsr_end (by omega)]
      have : hi = lo := by omega
      subst this
      exact ⟨h0, h3, h4⟩
theorem root_law {n : Int} (h0 : 0 ≤ n) (h1 : n ≤ 4611686018427387904) : 0 ≤ rootS n ∧ rootS n * rootS n ≤ n ∧ n < (rootS n + 1) * (rootS n + 1) :=
  bsr_law 32 0 2147483648 (by omega) (by omega) (by decide) (by omega) (by omega)

def partS (f : Int) : Int := 1000000 * f * f
def indexS (sq f : Int) : Int × Int :=
  (rootS (partS f / (f * f - sq)), if rootS (partS f / (f * f - sq)) * rootS (partS f / (f * f - sq)) * (f * f - sq) < partS f then rootS (partS f / (f * f - sq)) + 1 else rootS (partS f / (f * f - sq)))

theorem sq_lt {a b : Int} (h0 : 0 ≤ a) (h : a < b) : a * a < b * b := by
  have h1 := Int.mul_le_mul_of_nonneg_left (show a ≤ b by omega) h0
  have h2 := Int.mul_lt_mul_of_pos_right h (show 0 < b by omega)
  omega
theorem sq_le_of {a b : Int} (_h0 : 0 ≤ a) (hb : 0 ≤ b) (h : a * a ≤ b * b) : a ≤ b := by
  rcases Int.lt_or_le b a with h1 | h1
  · have := sq_lt hb h1; omega
  · exact h1
theorem ff_in {f : Int} (h0 : 1 ≤ f) (h1 : f ≤ 3000) : 1 ≤ f * f ∧ f * f ≤ 9000000 := by
  have h2 := Int.mul_le_mul h1 h1 (by omega) (by omega)
  have h3 := Int.mul_le_mul h0 h0 (by omega) (by omega)
  omega
theorem part_eq (f : Int) : partS f = 1000000 * (f * f) := by unfold partS; rw [Int.mul_assoc]
/-- What the walk of 'index' needs, and what the law needs of the index. -/
theorem index_law {sq f : Int} (h0 : 1 ≤ f) (h1 : f ≤ 3000) (h2 : 0 ≤ sq) (h3 : sq < f * f) :
    (0 ≤ partS f / (f * f - sq) ∧ partS f / (f * f - sq) ≤ 9000000000000) ∧ (1000 ≤ rootS (partS f / (f * f - sq)) ∧ rootS (partS f / (f * f - sq)) ≤ 3000000) ∧
    (0 ≤ rootS (partS f / (f * f - sq)) * rootS (partS f / (f * f - sq)) * (f * f - sq) ∧ rootS (partS f / (f * f - sq)) * rootS (partS f / (f * f - sq)) * (f * f - sq) ≤ 9000000000000) := by
  obtain ⟨g0, g1⟩ := ff_in h0 h1
  have hp := part_eq f
  obtain ⟨r, hr⟩ : ∃ r, f * f - sq = r := ⟨_, rfl⟩
  obtain ⟨F, hF⟩ : ∃ F, f * f = F := ⟨_, rfl⟩
  rw [hF] at g0 g1 hp h3
  have hr1 : 1 ≤ r := by omega
  have hr2 : r ≤ F := by omega
  rw [hr, hp]
  clear hp
  have d0 : 0 ≤ 1000000 * F / r := Int.ediv_nonneg (by omega) (by omega)
  have d1 : 1000000 * F / r ≤ 9000000000000 := Int.le_trans (Int.ediv_le_self _ (by omega)) (by omega)
  have d2 : 1000000 ≤ 1000000 * F / r := by
    refine Int.le_ediv_of_mul_le (by omega) ?_
    omega
  have d3 : 1000000 * F / r * r ≤ 1000000 * F := Int.ediv_mul_le _ (by omega)
  obtain ⟨q, hq⟩ : ∃ q, 1000000 * F / r = q := ⟨_, rfl⟩
  rw [hq] at d0 d1 d2 d3 ⊢
  obtain ⟨r0, r1, r2⟩ := root_law (n := q) d0 (by omega)
  obtain ⟨m, hm⟩ : ∃ m, rootS q = m := ⟨_, rfl⟩
  rw [hm] at r0 r1 r2 ⊢
  refine ⟨⟨d0, d1⟩, ⟨?_, ?_⟩, ?_, ?_⟩
  · rcases Int.lt_or_le m 1000 with h | h
    · have := Int.mul_le_mul (show m + 1 ≤ 1000 by omega) (show m + 1 ≤ 1000 by omega) (by omega) (by omega)
      omega
    · exact h
  · exact sq_le_of r0 (by omega) (by omega)
  · exact Int.mul_nonneg (Int.mul_nonneg r0 r0) (by omega)
  · have := Int.mul_le_mul_of_nonneg_right r1 (show 0 ≤ r by omega)
    omega
theorem index_in {sq f : Int} (h0 : 1 ≤ f) (h1 : f ≤ 3000) (h2 : 0 ≤ sq) (h3 : sq < f * f) : 1000 ≤ (indexS sq f).1 ∧ (indexS sq f).1 ≤ (indexS sq f).2 ∧ (indexS sq f).2 ≤ 3000001 := by
  obtain ⟨_, ⟨a, b⟩, _⟩ := index_law h0 h1 h2 h3
  unfold indexS
  dsimp only
  split <;> omega

/-! ### Traces -/
structure Pt where
  f : Int
  lo : Int
  hi : Int
def encQ (p : Pt) : List Value := [.int .i64 p.f, .int .i64 p.lo, .int .i64 p.hi]
theorem encQ_len (p : Pt) : (encQ p).length = 3 := rfl
theorem encQ_one (p : Pt) : ∀ u ∈ encQ p, u.oneCell' = true := by intro u hu; simp [encQ] at hu; rcases hu with rfl | rfl | rfl <;> rfl
def ptAt (l : List Pt) (i : Nat) : Pt := (l[i]?).getD ⟨0, 0, 0⟩
theorem ptAt_of {l : List Pt} {i : Nat} {x : Pt} (h : l[i]? = some x) : ptAt l i = x := by unfold ptAt; rw [h]; rfl
def sqAt (l : List Pt) (i : Nat) : Int := (ptAt l i).f * (ptAt l i).f
/-- What a valid trace is. -/
structure TrOk (l : List Pt) (af wd : Int) : Prop where
  len0 : 0 < l.length
  len8 : l.length ≤ 8
  wd : 0 ≤ wd ∧ wd ≤ 500
  af : 0 ≤ af ∧ af ≤ l.length - 1
  pt : ∀ i, i < l.length → (1 ≤ (ptAt l i).f ∧ (ptAt l i).f ≤ 3000) ∧ (0 ≤ (ptAt l i).lo ∧ (ptAt l i).lo ≤ (ptAt l i).hi ∧ (ptAt l i).hi ≤ 20000)
  up : ∀ i, i + 1 < l.length → (ptAt l i).f < (ptAt l (i + 1)).f
theorem TrOk.lt {l : List Pt} {af wd : Int} (h : TrOk l af wd) {i : Nat} : ∀ {j : Nat}, i < j → j < l.length → (ptAt l i).f < (ptAt l j).f := by
  intro j
  induction j with
  | zero => intro h0; omega
  | succ j ih =>
    intro hij hj
    by_cases e : i = j
    · subst e; exact h.up i hj
    · have h1 := ih (by omega) (by omega)
      have h2 := h.up j hj
      omega
theorem TrOk.sq {l : List Pt} {af wd : Int} (h : TrOk l af wd) {i j : Nat} (hij : i < j) (hj : j < l.length) : 0 ≤ sqAt l i ∧ sqAt l i < (ptAt l j).f * (ptAt l j).f := by
  have h1 := h.lt hij hj
  have h2 := (h.pt i (by omega)).1
  refine ⟨Int.mul_nonneg (by omega) (by omega), sq_lt (by omega) h1⟩
theorem TrOk.idx {l : List Pt} {af wd : Int} (h : TrOk l af wd) {i j : Nat} (hij : i < j) (hj : j < l.length) : 1000 ≤ (indexS (sqAt l i) (ptAt l j).f).1 ∧ (indexS (sqAt l i) (ptAt l j).f).1 ≤ (indexS (sqAt l i) (ptAt l j).f).2 ∧ (indexS (sqAt l i) (ptAt l j).f).2 ≤ 3000001 := by
  have h1 := h.sq hij hj
  have h2 := (h.pt j hj).1
  exact index_in h2.1 h2.2 h1.1 h1.2

/-! ### The lamination -/
def slAt (out : List (Int × Int)) (j : Nat) : Int × Int := (out[j]?).getD (0, 0)
def abTo (l : List Pt) (f : Int) (out : List (Int × Int)) (ab : Int × Int) : Nat → Int × Int
  | 0 => ab
  | j + 1 => ((abTo l f out ab j).1 - (slAt out j).2 * (indexS (sqAt l j) f).2, (abTo l f out ab j).2 - (slAt out j).1 * (indexS (sqAt l j) f).1)
def ab0 (l : List Pt) (k : Nat) : Int × Int := (1000 * ((ptAt l (k + 1)).lo - (ptAt l 0).hi), 1000 * ((ptAt l (k + 1)).hi - (ptAt l 0).lo))
def valS (af wd : Int) (k : Nat) : Int := if af < (k : Int) then wd else 0
def aS (l : List Pt) (af wd : Int) (k : Nat) (a : Int) : Int := if 0 < valS af wd (k + 1) then a - valS af wd (k + 1) * (indexS (sqAt l af.toNat) (ptAt l (k + 1)).f).2 else a
def slabS (l : List Pt) (k : Nat) (a b : Int) : Int × Int := (max 0 (a / (indexS (sqAt l k) (ptAt l (k + 1)).f).2), -((-b) / (indexS (sqAt l k) (ptAt l (k + 1)).f).1))
/-- The first k slabs, or the index of a point that contradicts those below it. -/
def lamS (l : List Pt) (af wd : Int) : Nat → List (Int × Int) × Nat
  | 0 => ([], 0)
  | k + 1 =>
    if (lamS l af wd k).2 ≠ 0 then lamS l af wd k
    else if (abTo l (ptAt l (k + 1)).f (lamS l af wd k).1 (ab0 l k) k).2 < 0 then ([], k + 1)
    else ((lamS l af wd k).1 ++ [slabS l k (aS l af wd k (abTo l (ptAt l (k + 1)).f (lamS l af wd k).1 (ab0 l k) k).1) (abTo l (ptAt l (k + 1)).f (lamS l af wd k).1 (ab0 l k) k).2], 0)
theorem lam_stop {l : List Pt} {af wd : Int} {k : Nat} (h : (lamS l af wd k).2 ≠ 0) : ∀ m, k ≤ m → lamS l af wd m = lamS l af wd k := by
  intro m hm
  induction m with
  | zero => rw [show k = 0 by omega]
  | succ m ih =>
    by_cases e : k = m + 1
    · rw [e]
    · have := ih (by omega)
      rw [lamS, if_pos (by rw [this]; exact h)]
      exact this
theorem lam_len {l : List Pt} {af wd : Int} : ∀ k, (lamS l af wd k).2 = 0 → (lamS l af wd k).1.length = k
  | 0, _ => rfl
  | k + 1, h => by
    rw [lamS] at h ⊢
    by_cases h1 : (lamS l af wd k).2 ≠ 0
    · rw [if_pos h1] at h; exact absurd h h1
    · rw [if_neg h1] at h ⊢
      by_cases h2 : (abTo l (ptAt l (k + 1)).f (lamS l af wd k).1 (ab0 l k) k).2 < 0
      · rw [if_pos h2] at h; simp at h
      · rw [if_neg h2]
        have := lam_len (l := l) (af := af) (wd := wd) k (by omega)
        simp [this]
theorem lam_at {l : List Pt} {af wd : Int} : ∀ k, (lamS l af wd k).2 ≤ k
  | 0 => Nat.le_refl _
  | k + 1 => by
    have := lam_at (l := l) (af := af) (wd := wd) k
    rw [lamS]
    split
    · omega
    · split
      · exact Nat.le_refl _
      · exact Nat.zero_le _
theorem lam_nil {l : List Pt} {af wd : Int} : ∀ k, (lamS l af wd k).2 ≠ 0 → (lamS l af wd k).1 = []
  | 0, h => absurd rfl h
  | k + 1, h => by
    rw [lamS] at h ⊢
    by_cases h1 : (lamS l af wd k).2 ≠ 0
    · rw [if_pos h1]; exact lam_nil k h1
    · rw [if_neg h1] at h ⊢
      by_cases h2 : (abTo l (ptAt l (k + 1)).f (lamS l af wd k).1 (ab0 l k) k).2 < 0
      · rw [if_pos h2]
      · rw [if_neg h2] at h; simp at h
end Go.Sky

namespace Go.Sky

def SlOk (out : List (Int × Int)) : Prop := ∀ j, 0 ≤ (slAt out j).1 ∧ (slAt out j).1 ≤ (slAt out j).2 ∧ (slAt out j).2 ≤ 20000
theorem slOk_nil : SlOk [] := fun j => by simp [slAt]
theorem slOk_push {out : List (Int × Int)} {s : Int × Int} (h : SlOk out) (h0 : 0 ≤ s.1) (h1 : s.1 ≤ s.2) (h2 : s.2 ≤ 20000) : SlOk (out ++ [s]) := by
  intro j
  have hj := h j
  unfold slAt at *
  rcases Nat.lt_or_ge j out.length with h3 | h3
  · rw [List.getElem?_append_left h3]; exact hj
  · rw [List.getElem?_append_right h3]
    by_cases e : j - out.length = 0
    · rw [e]; exact ⟨h0, h1, h2⟩
    · rw [List.getElem?_eq_none (by simp; omega)]; simp
theorem prod_in {s1 s2 r1 r2 : Int} (h0 : 0 ≤ s1) (h1 : s1 ≤ s2) (h2 : s2 ≤ 20000) (h3 : 0 ≤ r1) (h4 : r1 ≤ r2) (h5 : r2 ≤ 3000001) : 0 ≤ s1 * r1 ∧ s1 * r1 ≤ s2 * r2 ∧ s2 * r2 ≤ 60000020000 :=
  ⟨Int.mul_nonneg h0 h3, Int.mul_le_mul h1 h4 h3 (by omega), Int.mul_le_mul h2 h5 (by omega) (by omega)⟩
theorem ab_in {l : List Pt} {af wd : Int} (h : TrOk l af wd) {out : List (Int × Int)} (ho : SlOk out) {k : Nat} (hk : k + 1 < l.length) : ∀ j : Nat, j ≤ k →
    (abTo l (ptAt l (k + 1)).f out (ab0 l k) j).1 ≤ (abTo l (ptAt l (k + 1)).f out (ab0 l k) j).2 ∧ (abTo l (ptAt l (k + 1)).f out (ab0 l k) j).2 ≤ 20000000 ∧ -20000000 - 60000020000 * j ≤ (abTo l (ptAt l (k + 1)).f out (ab0 l k) j).1
  | 0, _ => by
    have h1 := (h.pt (k + 1) hk).2
    have h2 := (h.pt 0 (by omega)).2
    show (ab0 l k).1 ≤ (ab0 l k).2 ∧ (ab0 l k).2 ≤ 20000000 ∧ _ ≤ (ab0 l k).1
    unfold ab0
    dsimp only
    omega
  | j + 1, hj => by
    obtain ⟨a0, a1, a2⟩ := ab_in h ho hk j (by omega)
    obtain ⟨s0, s1, s2⟩ := ho j
    obtain ⟨r0, r1, r2⟩ := h.idx (show j < k + 1 by omega) hk
    obtain ⟨p0, p1, p2⟩ := prod_in s0 s1 s2 (by omega) r1 r2
    rw [abTo]
    dsimp only
    omega
theorem val_in {l : List Pt} {af wd : Int} (h : TrOk l af wd) (k : Nat) : 0 ≤ valS af wd k ∧ valS af wd k ≤ 500 := by
  have := h.wd
  unfold valS
  split <;> omega
theorem val_after {af wd : Int} {k : Nat} (h : 0 < valS af wd k) : af < (k : Int) := by
  unfold valS at h
  by_cases h1 : af < (k : Int)
  · exact h1
  · rw [if_neg h1] at h; omega
theorem vi_in {l : List Pt} {af wd : Int} (h : TrOk l af wd) {k : Nat} (hk : k + 1 < l.length) (hv : 0 < valS af wd (k + 1)) :
    0 ≤ valS af wd (k + 1) * (indexS (sqAt l af.toNat) (ptAt l (k + 1)).f).2 ∧ valS af wd (k + 1) * (indexS (sqAt l af.toNat) (ptAt l (k + 1)).f).2 ≤ 1500000500 := by
  have h1 := val_after hv
  have h2 := h.af
  obtain ⟨r0, r1, r2⟩ := h.idx (show af.toNat < k + 1 by omega) hk
  have h3 := val_in h (k + 1)
  exact ⟨Int.mul_nonneg h3.1 (by omega), Int.mul_le_mul h3.2 r2 (by omega) (by omega)⟩
theorem aS_in {l : List Pt} {af wd : Int} (h : TrOk l af wd) {k : Nat} (hk : k + 1 < l.length) (a : Int) : aS l af wd k a ≤ a ∧ a - 1500000500 ≤ aS l af wd k a := by
  unfold aS
  by_cases hv : 0 < valS af wd (k + 1)
  · rw [if_pos hv]
    have := vi_in h hk hv
    omega
  · rw [if_neg hv]; omega
theorem slab_in {l : List Pt} {af wd : Int} (h : TrOk l af wd) {k : Nat} (hk : k + 1 < l.length) {a b : Int} (h1 : a ≤ b) (h2 : b ≤ 20000000) (h3 : 0 ≤ b) :
    0 ≤ (slabS l k a b).1 ∧ (slabS l k a b).1 ≤ (slabS l k a b).2 ∧ (slabS l k a b).2 ≤ 20000 := by
  obtain ⟨r0, r1, r2⟩ := h.idx (show k < k + 1 by omega) hk
  unfold slabS
  dsimp only
  obtain ⟨o1, e1⟩ : ∃ o, (indexS (sqAt l k) (ptAt l (k + 1)).f).1 = o := ⟨_, rfl⟩
  obtain ⟨o2, e2⟩ : ∃ o, (indexS (sqAt l k) (ptAt l (k + 1)).f).2 = o := ⟨_, rfl⟩
  rw [e1] at r0 r1
  rw [e2] at r1 r2
  rw [e1, e2]
  clear e1 e2
  have q1 := Int.ediv_mul_le a (show o2 ≠ 0 by omega)
  have q2 := Int.ediv_mul_le (-b) (show o1 ≠ 0 by omega)
  have q3 : -20000 ≤ (-b) / o1 := Int.le_ediv_of_mul_le (by omega) (by omega)
  have q4 : (-b) / o1 ≤ 0 := by
    rcases Int.lt_or_le 0 ((-b) / o1) with hh | hh
    · have := Int.mul_le_mul (show 1 ≤ (-b) / o1 by omega) (show 1000 ≤ o1 from r0) (by omega) (by omega)
      omega
    · exact hh
  obtain ⟨x, hx⟩ : ∃ x, a / o2 = x := ⟨_, rfl⟩
  obtain ⟨y, hy⟩ : ∃ y, (-b) / o1 = y := ⟨_, rfl⟩
  rw [hx] at q1 ⊢
  rw [hy] at q2 q3 q4 ⊢
  have q5 : x ≤ -y := by
    rcases Int.lt_or_le (-y) x with hh | hh
    · have m1 := Int.mul_le_mul_of_nonneg_right (show -y + 1 ≤ x by omega) (show 0 ≤ o2 by omega)
      have m2 := Int.mul_le_mul_of_nonneg_left r1 (show 0 ≤ -y by omega)
      have m3 : (-y + 1) * o2 = -y * o2 + o2 := by rw [Int.add_mul, Int.one_mul]
      have m4 : -y * o1 = -(y * o1) := Int.neg_mul _ _
      omega
    · exact hh
  refine ⟨by omega, by omega, by omega⟩
theorem lam_ok {l : List Pt} {af wd : Int} (h : TrOk l af wd) : ∀ k : Nat, k + 1 ≤ l.length → SlOk (lamS l af wd k).1
  | 0, _ => slOk_nil
  | k + 1, hk => by
    have ih := lam_ok h k (by omega)
    rw [lamS]
    by_cases h1 : (lamS l af wd k).2 ≠ 0
    · rw [if_pos h1]; exact ih
    · rw [if_neg h1]
      by_cases h2 : (abTo l (ptAt l (k + 1)).f (lamS l af wd k).1 (ab0 l k) k).2 < 0
      · rw [if_pos h2]; exact slOk_nil
      · rw [if_neg h2]
        obtain ⟨a0, a1, a2⟩ := ab_in h ih (show k + 1 < l.length by omega) k (Nat.le_refl _)
        have a3 := aS_in h (show k + 1 < l.length by omega) (abTo l (ptAt l (k + 1)).f (lamS l af wd k).1 (ab0 l k) k).1
        obtain ⟨s0, s1, s2⟩ := slab_in h (show k + 1 < l.length by omega) (show aS l af wd k (abTo l (ptAt l (k + 1)).f (lamS l af wd k).1 (ab0 l k) k).1 ≤ (abTo l (ptAt l (k + 1)).f (lamS l af wd k).1 (ab0 l k) k).2 by omega) a1 (by omega)
        exact slOk_push ih s0 s1 s2

/-! ### A trace cut -/
theorem ptAt_take {l : List Pt} {n i : Nat} (h : i < n) : ptAt (l.take n) i = ptAt l i := by
  unfold ptAt
  rw [List.getElem?_take, if_pos h]
theorem abTo_cut {l l' : List Pt} {f : Int} {out : List (Int × Int)} {ab : Int × Int} : ∀ k : Nat, (∀ j, j < k → sqAt l' j = sqAt l j) → abTo l' f out ab k = abTo l f out ab k
  | 0, _ => rfl
  | k + 1, h => by rw [abTo, abTo, abTo_cut k (fun j hj => h j (by omega)), h k (by omega)]
theorem lam_cut {l : List Pt} {af wd : Int} {n : Nat} (h0 : 0 ≤ af) : ∀ k : Nat, k < n → lamS (l.take n) (min af (n - 1)) wd k = lamS l af wd k
  | 0, _ => rfl
  | k + 1, hk => by
    have ih := lam_cut (l := l) (wd := wd) (n := n) h0 k (by omega)
    have hp : ptAt (l.take n) (k + 1) = ptAt l (k + 1) := ptAt_take hk
    have hn0 : 0 < n := by omega
    have hs : ∀ j, j < n → sqAt (l.take n) j = sqAt l j := fun j hj => by unfold sqAt; rw [ptAt_take hj]
    have hab : ab0 (l.take n) k = ab0 l k := by unfold ab0; rw [hp, ptAt_take (l := l) hn0]
    have hv : valS (min af (n - 1)) wd (k + 1) = valS af wd (k + 1) := by unfold valS; split <;> split <;> omega
    have ha : ∀ a, aS (l.take n) (min af (n - 1)) wd k a = aS l af wd k a := by
      intro a
      unfold aS
      rw [hv, hp]
      by_cases h1 : 0 < valS af wd (k + 1)
      · have h2 := val_after h1
        rw [if_pos h1, if_pos h1, show min af ((n : Int) - 1) = af by omega, hs af.toNat (by omega)]
      · rw [if_neg h1, if_neg h1]
    have hsl : ∀ a b, slabS (l.take n) k a b = slabS l k a b := by
      intro a b
      unfold slabS
      rw [hp, hs k (by omega)]
    rw [lamS, lamS, ih, hp, hab, abTo_cut k (fun j (hj : j < k) => hs j (by omega)), ha, hsl]

/-! ### A trace moved -/
def movP (u : Int) (p : Pt) : Pt := ⟨p.f, p.lo + u, p.hi + u⟩
theorem ptAt_mov {l : List Pt} {u : Int} {i : Nat} (h : i < l.length) : ptAt (l.map (movP u)) i = movP u (ptAt l i) := by
  unfold ptAt
  rw [List.getElem?_map, List.getElem?_eq_getElem h]
  rfl
theorem lam_mov {l : List Pt} {af wd u : Int} (ha : 0 ≤ af ∧ af ≤ l.length - 1) : ∀ k : Nat, k < l.length → lamS (l.map (movP u)) af wd k = lamS l af wd k
  | 0, _ => rfl
  | k + 1, hk => by
    have ih := lam_mov (u := u) (wd := wd) ha k (by omega)
    have hp := ptAt_mov (u := u) hk
    have hs : ∀ j, j < l.length → sqAt (l.map (movP u)) j = sqAt l j := fun j hj => by unfold sqAt; rw [ptAt_mov hj]; rfl
    have hab : ab0 (l.map (movP u)) k = ab0 l k := by
      unfold ab0
      rw [hp, ptAt_mov (show 0 < l.length by omega)]
      unfold movP
      dsimp only
      congr 2 <;> omega
    have hf : (ptAt (l.map (movP u)) (k + 1)).f = (ptAt l (k + 1)).f := by rw [hp]; rfl
    have ha' : ∀ a, aS (l.map (movP u)) af wd k a = aS l af wd k a := by
      intro a
      unfold aS
      rw [hf, hs af.toNat (by omega)]
    have hsl : ∀ a b, slabS (l.map (movP u)) k a b = slabS l k a b := by
      intro a b
      unfold slabS
      rw [hf, hs k (by omega)]
    rw [lamS, lamS, ih, hf, hab, abTo_cut k (fun j (hj : j < k) => hs j (by omega)), ha', hsl]

/-! ### Heights -/
def sumH (l : List Pt) (out : List (Int × Int)) : Nat → Int × Int
  | 0 => ((ptAt l 0).lo, (ptAt l 0).hi)
  | k + 1 => ((sumH l out k).1 + (slAt out k).1, (sumH l out k).2 + (slAt out k).2)
def htS (l : List Pt) (af wd : Int) (out : List (Int × Int)) (k : Nat) : Int × Int := ((sumH l out k).1, (sumH l out k).2 + valS af wd k)
def htsS (l : List Pt) (af wd : Int) (out : List (Int × Int)) (k : Nat) : List (Int × Int) := (List.range k).map (htS l af wd out)
theorem sumH_in {l : List Pt} {af wd : Int} (h : TrOk l af wd) {out : List (Int × Int)} (ho : SlOk out) : ∀ k : Nat, 0 ≤ (sumH l out k).1 ∧ (sumH l out k).1 ≤ (sumH l out k).2 ∧ (sumH l out k).2 ≤ 20000 + 20000 * k
  | 0 => by have := (h.pt 0 h.len0).2; rw [sumH]; dsimp only; omega
  | k + 1 => by
    have ih := sumH_in h ho k
    have := ho k
    rw [sumH]
    dsimp only
    omega
theorem sumH_mov {l : List Pt} {u : Int} {out : List (Int × Int)} (h : 0 < l.length) : ∀ k : Nat, sumH (l.map (movP u)) out k = ((sumH l out k).1 + u, (sumH l out k).2 + u)
  | 0 => by rw [sumH, sumH, ptAt_mov h]; rfl
  | k + 1 => by
    rw [sumH, sumH, sumH_mov h k]
    dsimp only
    congr 1 <;> omega
theorem ht_mov {l : List Pt} {af wd u : Int} {out : List (Int × Int)} (h : 0 < l.length) (k : Nat) : htS (l.map (movP u)) af wd out k = ((htS l af wd out k).1 + u, (htS l af wd out k).2 + u) := by
  unfold htS
  rw [sumH_mov h]
  dsimp only
  congr 1
  omega
theorem hts_at {l : List Pt} {af wd : Int} {out : List (Int × Int)} {k i : Nat} (h : i < k) : (htsS l af wd out k)[i]? = some (htS l af wd out i) := by
  unfold htsS
  rw [List.getElem?_map, List.getElem?_range h]
  rfl
theorem hts_push (l : List Pt) (af wd : Int) (out : List (Int × Int)) (k : Nat) : htsS l af wd out (k + 1) = htsS l af wd out k ++ [htS l af wd out k] := by
  unfold htsS
  rw [List.range_succ, List.map_append]
  rfl
end Go.Sky

namespace Go.Sky

theorem trOk_take {l : List Pt} {af wd : Int} (h : TrOk l af wd) {n : Nat} (h0 : 0 < n) (h1 : n ≤ l.length) : TrOk (l.take n) (min af (n - 1)) wd := by
  have hl : (l.take n).length = n := by rw [List.length_take]; omega
  have haf := h.af
  refine ⟨by omega, by rw [hl]; have := h.len8; omega, h.wd, by rw [hl]; omega, fun i hi => ?_, fun i hi => ?_⟩
  · rw [hl] at hi
    rw [ptAt_take hi]
    exact h.pt i (by omega)
  · rw [hl] at hi
    rw [ptAt_take hi, ptAt_take (show i < n by omega)]
    exact h.up i (by omega)
theorem lam_zero {l : List Pt} {af wd : Int} {k : Nat} : ∀ d, (lamS l af wd (k + d)).2 = 0 → (lamS l af wd k).2 = 0 := by
  intro d h
  rcases Nat.eq_zero_or_pos (lamS l af wd k).2 with h0 | h0
  · exact h0
  · have hne : (lamS l af wd k).2 ≠ 0 := by omega
    have := lam_stop hne (k + d) (Nat.le_add_right _ _)
    rw [this] at h
    exact h
theorem lam_prefix {l : List Pt} {af wd : Int} {k : Nat} : ∀ d, (lamS l af wd (k + d)).2 = 0 → (lamS l af wd k).1 = (lamS l af wd (k + d)).1.take k
  | 0, h => by
    rw [Nat.add_zero, List.take_of_length_le]
    rw [lam_len k h]
    exact Nat.le_refl _
  | d + 1, h => by
    have h' : (lamS l af wd (k + d)).2 = 0 := by
      have h2 : (lamS l af wd (k + d + 1)).2 = 0 := h
      exact lam_zero 1 h2
    have ih := lam_prefix d h'
    have hlen := lam_len (k + d) h'
    rw [ih]
    show _ = (lamS l af wd (k + d + 1)).1.take k
    rw [lamS, if_neg (by rw [h']; simp)]
    have h2 : (lamS l af wd (k + d + 1)).2 = 0 := h
    rw [lamS, if_neg (by rw [h']; simp)] at h2
    by_cases hn : (abTo l (ptAt l (k + d + 1)).f (lamS l af wd (k + d)).1 (ab0 l (k + d)) (k + d)).2 < 0
    · rw [if_pos hn] at h2; simp at h2
    · rw [if_neg hn]
      rw [List.take_append_of_le_length (by omega)]
theorem lam_lo {l : List Pt} {af wd : Int} {k : Nat} (h0 : (lamS l af wd k).2 = 0) : ∀ d, (lamS l af wd (k + d)).2 ≠ 0 → k < (lamS l af wd (k + d)).2
  | 0, h => absurd h0 h
  | d + 1, h => by
    have h2 : (lamS l af wd (k + d + 1)).2 ≠ 0 := h
    show k < (lamS l af wd (k + d + 1)).2
    by_cases hd : (lamS l af wd (k + d)).2 = 0
    · rw [lamS, if_neg (by rw [hd]; simp)] at h2 ⊢
      by_cases hn : (abTo l (ptAt l (k + d + 1)).f (lamS l af wd (k + d)).1 (ab0 l (k + d)) (k + d)).2 < 0
      · rw [if_pos hn]; show k < k + d + 1; omega
      · rw [if_neg hn] at h2; exact absurd rfl h2
    · rw [lam_stop hd (k + d + 1) (by omega)]
      exact lam_lo h0 d hd

/-- The first k points moved. -/
def movTo (u : Int) (l : List Pt) (k : Nat) : List Pt := (l.take k).map (movP u) ++ l.drop k
theorem movTo_zero (u : Int) (l : List Pt) : movTo u l 0 = l := by unfold movTo; simp
theorem movTo_all (u : Int) (l : List Pt) (k : Nat) (h : l.length ≤ k) : movTo u l k = l.map (movP u) := by
  unfold movTo
  rw [List.take_of_length_le h, List.drop_of_length_le h, List.append_nil]
theorem movTo_len (u : Int) (l : List Pt) (k : Nat) : (movTo u l k).length = l.length := by
  unfold movTo
  rw [List.length_append, List.length_map, List.length_take, List.length_drop]
  omega
theorem movTo_at {u : Int} {l : List Pt} {k : Nat} {x : Pt} (h : l[k]? = some x) : (movTo u l k)[k]? = some x := by
  obtain ⟨hk, rfl⟩ := List.getElem?_eq_some_iff.1 h
  unfold movTo
  rw [List.getElem?_append_right (by simp; omega), List.length_map, List.length_take, List.getElem?_drop, show min k l.length = k by omega, Nat.sub_self, Nat.add_zero, List.getElem?_eq_getElem hk]
theorem movTo_step {u : Int} {l : List Pt} {k : Nat} {x : Pt} (h : l[k]? = some x) : (movTo u l k).set k (movP u x) = movTo u l (k + 1) := by
  obtain ⟨hk, rfl⟩ := List.getElem?_eq_some_iff.1 h
  unfold movTo
  rw [List.set_append_right _ _ (by simp; omega), List.length_map, List.length_take, show k - min k l.length = 0 by omega, List.drop_eq_getElem_cons hk, List.set_cons_zero, List.take_succ_eq_append_getElem hk, List.map_append, List.append_assoc]
  rfl
end Go.Sky
