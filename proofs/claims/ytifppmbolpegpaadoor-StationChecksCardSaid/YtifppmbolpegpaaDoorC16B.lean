/- Memory words of this family: new blocks only; a slice that reads as a list of elements of k cells; a slice that the call owns. Plain lemmas, no program. -/
import Derived.Deep.AppendLies
import Derived.Deep.Draws
import Derived.Lib.Hide
import Derived.WalkKit

namespace Go.Sky
open Go.RowKit

/-- The world W is w with new blocks (and draws): nothing that w held has turned. -/
def New (w W : World) : Prop := Below w.heap.size w W

section
variable {w W W' : World}
theorem New.refl (w : World) : New w w := Below.refl _ _
theorem New.size (h : New w W) : w.heap.size ≤ W.heap.size := Below.size h
theorem New.trans (h : New w W) (k : New W W') : New w W' := Below.trans h (Below.mono k h.size)
theorem New.alloc (h : New w W) (o : Obj) : New w (W.alloc o) := Below.alloc h h.size o
theorem hn2of {o : Obj} (h : New (w.alloc o) W) : New w W := Below.trans (Below.alloc (Below.refl _ _) (Nat.le_refl _) o) (Below.mono h (by simp))
theorem New.drew (h : New w W) : New w W.drew := Below.drew h
theorem New.drewN (h : New w W) (n : Nat) : New w (W.drewN n) := ⟨h.os, h.tape, h.output, h.size, h.block⟩
theorem New.setCell (h : New w W) {p : Addr} (hp : w.heap.size ≤ p.block) (u : Value) : New w (W.setCell p u) := Below.setCell h hp u
theorem New.grown (h : New w W) {row : Option Nat} (hg : W.grownBy W' row) (hr : ∀ k, row = some k → w.heap.size ≤ k) : New w W' := Below.grown h hg h.size hr
theorem New.cells (h : New w W) : ∀ b o, b < w.heap.size → W.cell? ⟨b, o, none⟩ = w.cell? ⟨b, o, none⟩ := fun b o hb => Below.cell (p := ⟨b, o, none⟩) h hb
theorem New.marks (h : New w W) : ∀ b o, b < w.heap.size → W.frozen? ⟨b, o, none⟩ = w.frozen? ⟨b, o, none⟩ := fun b o hb => Below.frozen (p := ⟨b, o, none⟩) h hb
theorem New.cell (h : New w W) {b o : Nat} {u : Value} (hc : w.cell? ⟨b, o, none⟩ = some u) : W.cell? ⟨b, o, none⟩ = some u :=
  (h.cells b o (World.block_lt_of_cell? w ⟨b, o, none⟩ hc)).trans hc
theorem New.heap (h : New w W) {b : Nat} {o : Obj} (hb : w.heap[b]? = some o) : W.heap[b]? = some o :=
  (Below.block h b (Array.getElem?_eq_some_iff.1 hb).1).trans hb
/-- Below a number that is not above the first world's size. -/
theorem New.below (h : New w W) {B : Nat} (hB : B ≤ w.heap.size) : Below B w W := Below.mono h hB
theorem New.of_below {B : Nat} (h : Below B w W) (hB : w.heap.size ≤ B) : New w W := Below.mono h hB
end

/-- A slice with the address A and n elements reads as xs: element i lies in k cells. -/
def Rd {α : Type} (w : World) (k : Nat) (enc : α → List Value) (A : Option Addr) (n : Nat) (xs : List α) : Prop :=
  xs.length = n ∧ (0 < n → ∃ b o, A = some ⟨b, o, none⟩ ∧ b < w.heap.size ∧ ∀ i x, xs[i]? = some x → ∀ j u, (enc x)[j]? = some u → w.cell? ⟨b, o + i * k + j, none⟩ = some u)

section
variable {α : Type} {w W : World} {k n : Nat} {enc : α → List Value} {A : Option Addr} {xs : List α}
theorem Rd.len (h : Rd w k enc A n xs) : xs.length = n := h.1
theorem Rd.nil (w : World) (k : Nat) (enc : α → List Value) (A : Option Addr) : Rd w k enc A 0 [] := ⟨rfl, fun h => absurd h (by omega)⟩
theorem Rd.keep (h : Rd w k enc A n xs) (hw : New w W) : Rd W k enc A n xs :=
  ⟨h.1, fun hn => by
    obtain ⟨b, o, e, hb, hc⟩ := h.2 hn
    exact ⟨b, o, e, Nat.lt_of_lt_of_le hb hw.size, fun i x hx j u hu => (hw.cells _ _ hb).trans (hc i x hx j u hu)⟩⟩
theorem Rd.at_ (h : Rd w k enc A n xs) {i : Nat} (hi : i < n) :
    ∃ b o x, A = some ⟨b, o, none⟩ ∧ b < w.heap.size ∧ xs[i]? = some x ∧ ∀ j u, (enc x)[j]? = some u → w.cell? ⟨b, o + i * k + j, none⟩ = some u := by
  obtain ⟨b, o, e, hb, hc⟩ := h.2 (by omega)
  have hl : i < xs.length := by have := h.1; omega
  exact ⟨b, o, xs[i], e, hb, List.getElem?_eq_getElem hl, hc i _ (List.getElem?_eq_getElem hl)⟩
theorem Rd.take {m : Nat} (h : Rd w k enc A n xs) (hm : m ≤ n) : Rd w k enc A m (xs.take m) :=
  ⟨by rw [List.length_take, h.1]; omega, fun hn => by
    obtain ⟨b, o, e, hb, hc⟩ := h.2 (by omega)
    refine ⟨b, o, e, hb, fun i x hx => hc i x ?_⟩
    rw [List.getElem?_take] at hx
    split at hx
    · exact hx
    · cases hx⟩
theorem Rd.some_ (h : Rd w k enc A n xs) (hn : 0 < n) : ∃ b o, A = some ⟨b, o, none⟩ ∧ b < w.heap.size ∧ ∀ i x, xs[i]? = some x → ∀ j u, (enc x)[j]? = some u → w.cell? ⟨b, o + i * k + j, none⟩ = some u := h.2 hn
end

/-- The same slice, owned by the call: nil, or at the head of a block from 'base' on. -/
def Own {α : Type} (w : World) (base : Nat) (e : TypeId) (k : Nat) (enc : α → List Value) (A : Option Addr) (n cap : Nat) (xs : List α) : Prop :=
  xs.length = n ∧ (∀ x, (enc x).length = k) ∧ w.ownsRow base e k (.slice A n cap) n (xs.flatMap enc)

theorem flat_len {α : Type} {k : Nat} {enc : α → List Value} (hk : ∀ x, (enc x).length = k) (xs : List α) : (xs.flatMap enc).length = xs.length * k := by
  induction xs with
  | nil => simp
  | cons x xs ih => simp [ih, hk, Nat.add_mul]; omega

theorem flat_at {α : Type} {k : Nat} {enc : α → List Value} (hk : ∀ x, (enc x).length = k) : ∀ (xs : List α) (i : Nat) (x : α), xs[i]? = some x → ∀ j u, (enc x)[j]? = some u → (xs.flatMap enc)[i * k + j]? = some u := by
  intro xs
  induction xs with
  | nil => intro i x h; simp at h
  | cons y ys ih =>
    intro i x h j u hu
    have hj : j < k := by rw [← hk x]; exact (List.getElem?_eq_some_iff.1 hu).1
    cases i with
    | zero =>
      simp at h; subst h
      simp only [Nat.zero_mul, Nat.zero_add, List.flatMap_cons]
      rw [List.getElem?_append_left (by rw [hk]; exact hj)]
      exact hu
    | succ i =>
      simp at h
      rw [List.flatMap_cons, List.getElem?_append_right (by rw [hk, Nat.add_mul]; omega), hk]
      rw [show (i + 1) * k + j - k = i * k + j by rw [Nat.add_mul]; omega]
      exact ih i x h j u hu

section
variable {α : Type} {w W : World} {base e k n cap : Nat} {enc : α → List Value} {A : Option Addr} {xs : List α}
theorem Own.len (h : Own w base e k enc A n cap xs) : xs.length = n := h.1
theorem Own.nil (w : World) (base e k : Nat) {enc : α → List Value} (hk : ∀ x, (enc x).length = k) : Own w base e k enc none 0 0 [] := ⟨rfl, hk, World.ownsRow_nil _ _ _ _⟩
theorem Own.form (h : Own w base e k enc A n cap xs) : (A = none ∧ n = 0 ∧ cap = 0 ∧ xs = []) ∨ ∃ g, A = some ⟨g, 0, none⟩ ∧ base ≤ g ∧ g < w.heap.size ∧ n ≤ cap ∧ cap ≤ maxLen := by
  rcases h.2.2.2 with ⟨hv, h0⟩ | ⟨g, c, cur, hv, hb, hg, hn, hm, _⟩
  · left
    injection hv with h1 h2 h3
    exact ⟨h1, h2, h3, List.eq_nil_of_length_eq_zero (by rw [h.1]; exact h2)⟩
  · right
    injection hv with h1 h2 h3
    exact ⟨g, h1, hb, (Array.getElem?_eq_some_iff.1 hg).1, by omega, by omega⟩
theorem Own.le (h : Own w base e k enc A n cap xs) : n ≤ cap ∧ cap ≤ maxLen := by
  rcases h.form with ⟨_, h1, h2, _⟩ | ⟨g, _, _, _, h1, h2⟩
  · subst h1 h2; exact ⟨Nat.le_refl _, Nat.zero_le _⟩
  · exact ⟨h1, h2⟩
theorem Own.row (h : Own w base e k enc A n cap xs) : w.ownsRow base e k (.slice A n cap) n (xs.flatMap enc) := h.2.2
theorem Own.rd (h : Own w base e k enc A n cap xs) : Rd w k enc A n xs := by
  refine ⟨h.1, fun hn => ?_⟩
  rcases h.form with ⟨_, h1, _⟩ | ⟨g, hA, _, hlt, _⟩
  · omega
  · subst hA
    refine ⟨g, 0, rfl, hlt, fun i x hx j u hu => ?_⟩
    have hc := h.2.2.cells (g := g) rfl (i * k + j) u (flat_at h.2.1 xs i x hx j u hu)
    have ha : (⟨g, 0, none⟩ : Addr).add (i * k + j) = ⟨g, 0 + i * k + j, none⟩ := by
      unfold Addr.add
      split
      · rename_i h0
        rw [show 0 + i * k + j = 0 by omega]
      · simp
    rw [ha] at hc
    exact hc
theorem Own.kept {row : Option Nat} (h : Own w base e k enc A n cap xs) (hg : w.grownBy W row) (hne : A.map (·.block) = none ∨ A.map (·.block) ≠ row) : Own W base e k enc A n cap xs :=
  ⟨h.1, h.2.1, h.2.2.kept hg (by cases A <;> simp_all [Value.ownBlock])⟩
theorem Own.alloc (h : Own w base e k enc A n cap xs) (o : Obj) : Own (w.alloc o) base e k enc A n cap xs := ⟨h.1, h.2.1, h.2.2.alloc o⟩
theorem Own.drew (h : Own w base e k enc A n cap xs) : Own w.drew base e k enc A n cap xs := ⟨h.1, h.2.1, h.2.2⟩
theorem Own.drewN (h : Own w base e k enc A n cap xs) (m : Nat) : Own (w.drewN m) base e k enc A n cap xs := ⟨h.1, h.2.1, h.2.2⟩
theorem Own.keep (h : Own w base e k enc A n cap xs) (hw : New w W) : Own W base e k enc A n cap xs :=
  h.kept (row := none) ⟨hw.os, hw.tape, hw.output, hw.size, fun b hb _ => hw.block b hb⟩ (by cases A <;> simp)
theorem Own.base_le {base' : Nat} (h : Own w base e k enc A n cap xs) (hb : base' ≤ base) : Own w base' e k enc A n cap xs := by
  refine ⟨h.1, h.2.1, h.2.2.1, ?_⟩
  rcases h.2.2.2 with h0 | ⟨g, c, cur, hv, hg, r⟩
  · exact .inl h0
  · exact .inr ⟨g, c, cur, hv, by omega, r⟩
/-- A store elsewhere. -/
theorem Own.setOther (h : Own w base e k enc A n cap xs) {p : Addr} (hp : A.map (·.block) ≠ some p.block) (u : Value) : Own (w.setCell p u) base e k enc A n cap xs :=
  h.kept (row := some p.block) ⟨rfl, rfl, rfl, by simp [World.setCell], fun b hb hne => Below.heap_setCell _ _ _ _ (by intro e; subst e; exact hne rfl)⟩ (.inr hp)
/-- What was grown by a row of one's own is new to a world that lacks the row. -/
theorem New.grownOwn {w0 : World} (hn : New w0 w) (h : Own w base e k enc A n cap xs) (hb : w0.heap.size ≤ base) (hg : w.grownBy W (A.map (·.block))) : New w0 W :=
  hn.grown hg fun b hb' => by
    rcases h.form with ⟨rfl, _⟩ | ⟨g, rfl, hg', _⟩
    · simp at hb'
    · simp at hb'; omega
end

/-- Block b is just the cells cs of type t, none frozen. -/
def Bx (w : World) (b : Nat) (t : TypeId) (cs : Array Value) : Prop := w.heap[b]? = some (.cells cs t (0, 0))
section
variable {w W : World} {b : Nat} {t : TypeId} {cs : Array Value}
theorem Bx.lt (h : Bx w b t cs) : b < w.heap.size := (Array.getElem?_eq_some_iff.1 h).1
theorem Bx.cell (h : Bx w b t cs) (i : Nat) : w.cell? ⟨b, i, none⟩ = cs[i]? := cell_of_row w b i cs t (0, 0) h
theorem Bx.free (h : Bx w b t cs) (i : Nat) : w.frozen? ⟨b, i, none⟩ = false := by
  unfold Bx at h
  simp [World.frozen?, h]
theorem Bx.mk (w : World) (t : TypeId) (cs : Array Value) : Bx (w.alloc (.cells cs t)) w.heap.size t cs := heap_alloc_new w _
theorem Bx.mk_at (w : World) (t : TypeId) (cs : Array Value) (b : Nat) (hb : b = w.heap.size) : Bx (w.alloc (.cells cs t)) b t cs := hb ▸ Bx.mk w t cs
theorem Bx.drew (h : Bx w b t cs) : Bx w.drew b t cs := h
theorem Bx.drewN (h : Bx w b t cs) (n : Nat) : Bx (w.drewN n) b t cs := h
theorem Bx.alloc (h : Bx w b t cs) (o : Obj) : Bx (w.alloc o) b t cs := (Below.heap_alloc w o b h.lt).trans h
theorem Bx.set (h : Bx w b t cs) (i : Nat) (u : Value) : Bx (w.setCell ⟨b, i, none⟩ u) b t (cs.setIfInBounds i u) := by
  unfold Bx at h ⊢
  simp [World.setCell, Array.getElem?_modify, h]
theorem Bx.far (h : Bx w b t cs) {p : Addr} (hp : b ≠ p.block) (u : Value) : Bx (w.setCell p u) b t cs := (Below.heap_setCell w p u b hp).trans h
theorem Bx.keep (h : Bx w b t cs) (hn : New w W) : Bx W b t cs := hn.heap h
theorem Bx.grown {row : Option Nat} (h : Bx w b t cs) (hg : w.grownBy W row) (hne : some b ≠ row) : Bx W b t cs := (hg.block b h.lt hne).trans h
theorem Bx.below {B : Nat} (h : Bx w b t cs) (hb : Below B w W) (hlt : b < B) : Bx W b t cs := (hb.block b hlt).trans h
end

/-- append of one element: at a plain region's list. -/
theorem wpList_push {P : Program} (w : World) {ops : Array Oper} {rest : List Oper} {o : Oper} {a : Act} {Q : Exit → Act → World → Prop} (hgd : o.guard = none) (s x : Operand) (t : TypeId)
    (ho : o.op = .call { callee := .builtin .append, args := #[s, x], argTypes := #[t, t] })
    {α : Type} (e : TypeId) (i : TypeInfo) (z : Value) (k bytes : Nat) (ht : P.underlying t = some (.slice e)) (hi : P.info? e = some i) (hz : i.zero = some z)
    (hsize : i.size = k) (hby : i.bytes = bytes) (hzs : z.cells.size = k) (hsz : 0 < k)
    (base : Nat) (enc : α → List Value) (A : Option Addr) (n cap : Nat) (xs : List α) (hs : a.eval s = .slice A n cap) (hown : Own w base e k enc A n cap xs)
    (B m c : Nat) (ys : List α) (hx : a.eval x = .slice (some ⟨B, 0, none⟩) m c) (hm : ys.length = m) (hm0 : 0 < m) (hnews : ∀ j u, (ys.flatMap enc)[j]? = some u → w.cell? ⟨B, j, none⟩ = some u) (h1 : ∀ x, ∀ u ∈ enc x, u.oneCell' = true)
    (h63 : n + m ≤ maxLen) (hbytes : (n + m) * bytes ≤ 140737488355328) (hbase : base ≤ w.heap.size)
    (h : ∀ g cap' w', Own w' base e k enc (some ⟨g, 0, none⟩) (n + m) cap' (xs ++ ys) → w.grownBy w' (A.map (·.block)) → (A.map (·.block) = some g ∨ g = w.heap.size) → base ≤ g → g < w'.heap.size → (∀ w0, New w0 w → w0.heap.size ≤ base → New w0 w') →
      wpList P ops Q rest (a.put o.dst (.slice (some ⟨g, 0, none⟩) (n + m) cap')) w') : wpList P ops Q (o :: rest) a w := by
  refine wpList_append_lies w hgd s x t ho base e i z k bytes ht hi hz hsize hby hzs hsz _ n _ hs hown.2.2 ⟨B, 0, none⟩ m c (ys.flatMap enc) hx (by rw [flat_len hown.2.1, hm]) ?_ ?_ hm0 h63 hbytes hbase _ rfl ?_
  · intro j u hu
    have hadd : (⟨B, 0, none⟩ : Addr).add j = ⟨B, j, none⟩ := by unfold Addr.add; split <;> simp_all
    rw [hadd]
    exact hnews j u hu
  · intro u hu
    obtain ⟨x, _, hux⟩ := List.mem_flatMap.1 hu
    exact h1 x u hux
  · intro g cap' w' hrow hgrow hat hlt
    have hOb : Value.ownBlock (.slice A n cap) = A.map (·.block) := by cases A <;> rfl
    rw [hOb] at hgrow hat
    have hb : base ≤ g := by
      rcases hrow.2 with ⟨hv, _⟩ | ⟨g', c', cur, hv, hb, _⟩
      · cases hv
      · injection hv with h1 _ _
        injection h1 with h1
        injection h1 with h1
        omega
    exact h g cap' w' ⟨by rw [List.length_append, hown.1, hm], hown.2.1, by rw [List.flatMap_append]; exact hrow⟩ hgrow hat hb hlt (fun w0 hn hb0 => hn.grownOwn hown hb0 hgrow)

/-- A store below the call's own blocks. -/
theorem Own.setBelow {α : Type} {w : World} {base e k n cap : Nat} {enc : α → List Value} {A : Option Addr} {xs : List α} (h : Own w base e k enc A n cap xs) {p : Addr} (hp : p.block < base) (u : Value) : Own (w.setCell p u) base e k enc A n cap xs :=
  h.setOther (by
    rcases h.form with ⟨rfl, _⟩ | ⟨g, rfl, hg, _⟩
    · simp
    · simp; omega) u

theorem flat_set {α : Type} {k c : Nat} {enc : α → List Value} {u : Value} (hk : ∀ x, (enc x).length = k) : ∀ (xs : List α) (j : Nat) (x y : α), xs[j]? = some x → enc y = (enc x).set c u → c < k →
    (xs.set j y).flatMap enc = (xs.flatMap enc).set (j * k + c) u := by
  intro xs
  induction xs with
  | nil => intro j x y h; simp at h
  | cons z zs ih =>
    intro j x y h hy hc
    cases j with
    | zero =>
      simp at h; subst h
      simp only [List.set_cons_zero, List.flatMap_cons, Nat.zero_mul, Nat.zero_add]
      rw [List.set_append_left _ _ (by rw [hk]; exact hc), hy]
    | succ j =>
      simp at h
      simp only [List.set_cons_succ, List.flatMap_cons]
      rw [ih j x y h hy hc, List.set_append_right _ _ (by rw [hk, Nat.add_mul]; omega), hk]
      rw [show (j + 1) * k + c - k = j * k + c by rw [Nat.add_mul]; omega]

/-- A store into an element of an owned slice. -/
theorem Own.setAt {α : Type} {w : World} {base e k n cap : Nat} {enc : α → List Value} {g : Nat} {xs : List α} (h : Own w base e k enc (some ⟨g, 0, none⟩) n cap xs)
    (j c : Nat) (x y : α) (u : Value) (hx : xs[j]? = some x) (hy : enc y = (enc x).set c u) (hc : c < k) (o : Nat) (ho : o = j * k + c) : Own (w.setCell ⟨g, o, none⟩ u) base e k enc (some ⟨g, 0, none⟩) n cap (xs.set j y) := by
  subst ho
  refine ⟨by rw [List.length_set]; exact h.1, h.2.1, ?_, ?_⟩
  · rw [flat_len h.2.1, List.length_set, h.1]
  · rcases h.2.2.2 with ⟨hv, _⟩ | ⟨g', c', cur, hv, hb, hg, hn, hm, hs, ht⟩
    · cases hv
    · right
      have hgg : g' = g := by injection hv with h1 _ _; injection h1 with h1; injection h1 with h1; exact h1.symm
      subst hgg
      refine ⟨g', c', cur.setIfInBounds (j * k + c) u, hv, hb, ?_, hn, hm, by simp [hs], ?_⟩
      · simp [World.setCell, Array.getElem?_modify, hg]
      · rw [flat_set h.2.1 xs j x y hx hy hc, ← ht, Array.toList_setIfInBounds, List.take_set]
theorem Own.set1 {α : Type} {w : World} {base e n cap : Nat} {enc : α → List Value} {g : Nat} {xs : List α} (h : Own w base e 1 enc (some ⟨g, 0, none⟩) n cap xs)
    (j : Nat) (y : α) (u : Value) (hj : j < n) (hy : enc y = [u]) : Own (w.setCell ⟨g, j, none⟩ u) base e 1 enc (some ⟨g, 0, none⟩) n cap (xs.set j y) := by
  have hjl : j < xs.length := by rw [h.1]; exact hj
  refine h.setAt j 0 xs[j] y u (List.getElem?_eq_getElem hjl) ?_ (by omega) j (by omega)
  rw [hy]
  have h1 := h.2.1 xs[j]
  match hq : enc xs[j], h1 with
  | [a], _ => rfl
theorem Own.free {α : Type} {w : World} {base e k n cap : Nat} {enc : α → List Value} {g : Nat} {xs : List α} (h : Own w base e k enc (some ⟨g, 0, none⟩) n cap xs) (o : Nat) : w.frozen? ⟨g, o, none⟩ = false := by
  rcases h.2.2.2 with ⟨hv, _⟩ | ⟨g', c', cur, hv, hb, hg, _⟩
  · cases hv
  · injection hv with h1 _ _; injection h1 with h1; injection h1 with h1
    subst h1
    simp [World.frozen?, hg]
theorem Own.cell1 {α : Type} {w : World} {base e n cap : Nat} {enc : α → List Value} {g : Nat} {xs : List α} (h : Own w base e 1 enc (some ⟨g, 0, none⟩) n cap xs) (j : Nat) (x : α) (u : Value) (hx : xs[j]? = some x) (hu : enc x = [u]) : w.cell? ⟨g, j, none⟩ = some u := by
  have hn : 0 < n := by have := (List.getElem?_eq_some_iff.1 hx).1; rw [h.1] at this; omega
  obtain ⟨b, o, hA, _, hc⟩ := h.rd.some_ hn
  injection hA with hA
  injection hA with h1 h2
  subst h1 h2
  have := hc j x hx 0 u (by rw [hu]; rfl)
  rw [show 0 + j * 1 + 0 = j by omega] at this
  exact this

theorem run_append_of_nil {P : Program} (w : World) (base : Nat) (t ty e : TypeId) (i : TypeInfo) (size : Nat) (ht : P.underlying t = some (.slice e)) (hi : P.info? e = some i)
    (v : Value) (n : Nat) (xs : List Value) (hown : w.ownsRow base e size v n xs) (c : Nat) : (Builtin.append_ #[t, t] ty #[v, .slice none 0 c]).run P w = .ok v w := by
  rcases hown.2 with ⟨rfl, rfl⟩ | ⟨g, cap, cur, rfl, _, _, hnc, _⟩
  · simp [Builtin.append_, run_underlying ht, sizeOf, typeInfo, hi, Builtin.lenOf, Builtin.firstCells]
  · simp [Builtin.append_, run_underlying ht, sizeOf, typeInfo, hi, Builtin.lenOf, Builtin.firstCells, hnc, storeCells]

/-- append of a whole slice, wherever it lies: at a plain region's list. -/
theorem wpList_pour {P : Program} (w : World) {ops : Array Oper} {rest : List Oper} {o : Oper} {a : Act} {Q : Exit → Act → World → Prop} (hgd : o.guard = none) (s x : Operand) (t : TypeId)
    (ho : o.op = .call { callee := .builtin .append, args := #[s, x], argTypes := #[t, t] })
    {α : Type} (e : TypeId) (i : TypeInfo) (z : Value) (k bytes : Nat) (ht : P.underlying t = some (.slice e)) (hi : P.info? e = some i) (hz : i.zero = some z)
    (hsize : i.size = k) (hby : i.bytes = bytes) (hzs : z.cells.size = k) (hsz : 0 < k)
    (base : Nat) (enc : α → List Value) (A : Option Addr) (n cap : Nat) (xs : List α) (hs : a.eval s = .slice A n cap) (hown : Own w base e k enc A n cap xs)
    (B : Option Addr) (m c : Nat) (ys : List α) (hx : a.eval x = .slice B m c) (hr : Rd w k enc B m ys) (h1 : ∀ x, ∀ u ∈ enc x, u.oneCell' = true)
    (h63 : n + m ≤ maxLen) (hbytes : (n + m) * bytes ≤ 140737488355328) (hbase : base ≤ w.heap.size)
    (h : ∀ A' cap' w', Own w' base e k enc A' (n + m) cap' (xs ++ ys) → w.grownBy w' (A.map (·.block)) → (∀ w0, New w0 w → w0.heap.size ≤ base → New w0 w') →
      wpList P ops Q rest (a.put o.dst (.slice A' (n + m) cap')) w') : wpList P ops Q (o :: rest) a w := by
  refine wpList_plain hgd fun K hK => ?_
  have hOb : Value.ownBlock (.slice A n cap) = A.map (·.block) := by cases A <;> rfl
  suffices hrun : ∃ A' cap' w', (Builtin.append_ #[t, t] o.type #[.slice A n cap, .slice B m c]).run P w = .ok (.slice A' (n + m) cap') w' ∧ Own w' base e k enc A' (n + m) cap' (xs ++ ys) ∧ w.grownBy w' (A.map (·.block)) by
    obtain ⟨A', cap', w', hr, h2, h3⟩ := hrun
    unfold Oper.wp execOp
    simp only [ho, resolve, invoke, builtin, Sem.run_bind, Sem.run_pure, Result.andThen_ok, List.map_toArray, List.map_cons, List.map_nil, hs, hx, hr]
    exact hK _ _ (h A' cap' w' h2 h3 (fun w0 hn hb0 => hn.grownOwn hown hb0 h3))
  rcases B with _ | ad
  · have hm : m = 0 := by
      rcases Nat.eq_zero_or_pos m with h0 | h0
      · exact h0
      · obtain ⟨b, o, e, _⟩ := hr.2 h0; cases e
    subst hm
    have hys : ys = [] := List.eq_nil_of_length_eq_zero hr.1
    subst hys
    exact ⟨A, cap, w, run_append_of_nil w base t o.type e i k ht hi _ n _ hown.2.2 c, by simpa using hown, World.grownBy.refl w _⟩
  · have hnews : ∀ j u, (ys.flatMap enc)[j]? = some u → w.cell? (ad.add j) = some u := by
      intro j u hu
      rcases Nat.eq_zero_or_pos m with h0 | h0
      · subst h0
        have hys : ys = [] := List.eq_nil_of_length_eq_zero hr.1
        subst hys
        simp at hu
      · obtain ⟨b, o', e', _, hc⟩ := hr.2 h0
        injection e' with e'
        subst e'
        have hlen := flat_len hown.2.1 ys
        have hj : j < ys.length * k := by rw [← hlen]; exact (List.getElem?_eq_some_iff.1 hu).1
        have hdm := Nat.div_add_mod j k
        have hjk : j / k < ys.length := Nat.div_lt_of_lt_mul (by rw [Nat.mul_comm]; exact hj)
        have hmod : j % k < (enc ys[j / k]).length := by rw [hown.2.1]; exact Nat.mod_lt _ hsz
        have h2 := flat_at hown.2.1 ys (j / k) ys[j / k] (List.getElem?_eq_getElem hjk) (j % k) _ (List.getElem?_eq_getElem hmod)
        have hjj : j / k * k + j % k = j := by rw [Nat.mul_comm]; exact hdm
        rw [hjj, hu] at h2
        injection h2 with h2
        have h3 := hc (j / k) _ (List.getElem?_eq_getElem hjk) (j % k) _ (List.getElem?_eq_getElem hmod)
        rw [← h2] at h3
        rw [show o' + j / k * k + j % k = o' + j by omega] at h3
        unfold Addr.add
        split
        · rename_i hj0; subst hj0; exact h3
        · exact h3
    obtain ⟨v', w', hrun, h2, h3, _, _⟩ := run_append_own_at (P := P) w base t o.type e i z k bytes ht hi hz hsize hby hzs hsz _ n _ hown.2.2 ad m c (ys.flatMap enc) (by rw [flat_len hown.2.1, hr.1]) hnews
      (by intro u hu; obtain ⟨x, _, hux⟩ := List.mem_flatMap.1 hu; exact h1 x u hux) h63 hbytes hbase
    have hv : ∃ A' cap', v' = .slice A' (n + m) cap' := by
      rcases h2.2 with ⟨hv, h0⟩ | ⟨g, cp, cur, hv, _⟩
      · exact ⟨none, 0, by rw [h0]; exact hv⟩
      · exact ⟨_, cp, hv⟩
    obtain ⟨A', cap', rfl⟩ := hv
    rw [hOb] at h3
    exact ⟨A', cap', w', hrun, ⟨by rw [List.length_append, hown.1, hr.1], hown.2.1, by rw [List.flatMap_append]; exact h2⟩, h3⟩

/-- An empty slice that is not nil. -/
theorem Own.empty {α : Type} (w : World) (base e k : Nat) {enc : α → List Value} (hk : ∀ x, (enc x).length = k) (b : Nat) (hb : b = w.heap.size) (hbase : base ≤ b) : Own (w.alloc (.cells #[] e)) base e k enc (some ⟨b, 0, none⟩) 0 0 [] := by
  subst hb
  exact ⟨rfl, hk, World.ownsRow_made w #[] 0 hbase (Nat.zero_le _) (by simp)⟩

/-- 'make([]T, n)', elements of one cell: at a plain region's list. -/
theorem wpList_mk {P : Program} (w : World) {ops : Array Oper} {rest : List Oper} {o : Oper} {a : Act} {Q : Exit → Act → World → Prop} (hg : o.guard = none) (l c : Operand) (t : TypeId) (hop : o.op = Op.makeSlice t l c)
    {α : Type} (base : Nat) (e : TypeId) (i : TypeInfo) (z : Value) (h1 : P.underlying t = some (.slice e)) (h2 : P.info? e = some i) (h3 : i.zero = some z) (h4 : i.size = 1) (hz : z.cells = #[z])
    (enc : α → List Value) (hk : ∀ x, (enc x).length = 1) (x0 : α) (hx0 : enc x0 = [z])
    (n : Nat) (hl : a.eval l = .int .i64 (n : Int)) (hc : a.eval c = .int .i64 (n : Int)) (b2 : i.bytes * n ≤ 281474976710656) (b3 : n ≤ maxLen) (b4 : base ≤ w.heap.size)
    (h : ∀ w', Own w' base e 1 enc (some ⟨w.heap.size, 0, none⟩) n n (List.replicate n x0) → New w w' → w.heap.size < w'.heap.size → wpList P ops Q rest (a.put o.dst (.slice (some ⟨w.heap.size, 0, none⟩) n n)) w') : wpList P ops Q (o :: rest) a w :=
  wpList_make_full w hg l c t hop base e i z 1 h1 h2 h3 h4 .i64 .i64 n n n hl hc rfl rfl b2 b3 b4 fun w' hrow hgrow => by
    have hf : (List.replicate n x0).flatMap enc = (madeCells z.cells (n * 1)).toList := by
      rw [hz, Nat.mul_one, toList_madeCells_one]
      clear hl hc b2 b3 hrow h
      induction n with
      | zero => rfl
      | succ n ih => rw [List.replicate_succ, List.replicate_succ, List.flatMap_cons, ih, hx0]; rfl
    have hown : Own w' base e 1 enc (some ⟨w.heap.size, 0, none⟩) n n (List.replicate n x0) := ⟨by simp, hk, by rw [hf]; exact hrow⟩
    refine h w' hown ((New.refl w).grown hgrow (fun k hk => by cases hk)) ?_
    rcases hown.form with ⟨hA, _⟩ | ⟨g, hA, _, hlt, _⟩
    · cases hA
    · injection hA with hA; injection hA with hA; rw [hA]; exact hlt

def encB (c : UInt8) : List Value := [.int .u8 (c.toNat : Int)]

/-- '[]byte(s)': at a plain region's list. -/
theorem wpList_bytes {P : Program} (w : World) {ops : Array Oper} {rest : List Oper} {o : Oper} {a : Act} {Q : Exit → Act → World → Prop} (hgd : o.guard = none) (x : Operand) (src dst e : TypeId)
    (ho : o.op = .convert src dst x) (hs : P.underlying src = some .string) (hd : P.underlying dst = some (.slice e)) (he : P.underlying e = some (.int .u8)) (s : ByteArray) (hx : a.eval x = .string s)
    (h : ∀ g cap w', New w w' → Rd w' 1 encB (some ⟨g, 0, none⟩) s.size s.data.toList → w.heap.size ≤ g → wpList P ops Q rest (a.put o.dst (.slice (some ⟨g, 0, none⟩) s.size cap)) w') : wpList P ops Q (o :: rest) a w := by
  refine wpList_plain hgd fun K hK => ?_
  unfold Oper.wp execOp
  have hrun := run_bytes_of_string (P := P) w src dst e s hs hd he
  simp only [ho, hx, Sem.run_bind, hrun, Result.andThen_ok, Sem.run_pure]
  refine hK _ _ (h _ _ _ (((New.refl w).drew).alloc _) ⟨by simp, fun hn => ⟨w.heap.size, 0, rfl, by simp, fun i c hc j u hu => ?_⟩⟩ (Nat.le_refl _))
  have hj : j = 0 := by
    rcases j with _ | j
    · rfl
    · simp [encB] at hu
  subst hj
  simp [encB] at hu
  subst hu
  have hi := (List.getElem?_eq_some_iff.1 hc).1
  have hg : (w.drew.alloc (.cells (bytesRow s (grownCap w s.size 0 e)) e ((bytesRow s (grownCap w s.size 0 e)).size, (bytesRow s (grownCap w s.size 0 e)).size + 1))).heap[w.heap.size]? = some (.cells (bytesRow s (grownCap w s.size 0 e)) e ((bytesRow s (grownCap w s.size 0 e)).size, (bytesRow s (grownCap w s.size 0 e)).size + 1)) := heap_alloc_new w.drew _
  rw [cell_of_row _ _ _ _ _ _ hg]
  have hi2 : i < s.data.size := by simpa using hi
  have hc2 : s.data[i] = c := by
    have := (List.getElem?_eq_some_iff.1 hc).2
    simpa using this
  rw [show 0 + i * 1 + 0 = i by omega]
  unfold bytesRow
  rw [Array.getElem?_append_left (by simpa using hi2), Array.getElem?_map, Array.getElem?_eq_getElem hi2, hc2]
  rfl

theorem take_map_succ {α β : Type} (f : α → β) (xs : List α) (j : Nat) (x : α) (h : xs[j]? = some x) : (xs.map f).take (j + 1) = (xs.map f).take j ++ [f x] := by
  obtain ⟨hk, rfl⟩ := List.getElem?_eq_some_iff.1 h
  rw [List.take_succ_eq_append_getElem (by simpa using hk)]
  simp
theorem take_all_map {α β : Type} (f : α → β) (xs : List α) (j : Nat) (h : xs.length ≤ j) : (xs.map f).take j = xs.map f := List.take_of_length_le (by simpa using h)
theorem take_snoc {α : Type} (xs : List α) (j : Nat) (x : α) (h : xs[j]? = some x) : xs.take (j + 1) = xs.take j ++ [x] := by
  obtain ⟨hk, rfl⟩ := List.getElem?_eq_some_iff.1 h
  rw [List.take_succ_eq_append_getElem hk]

end Go.Sky
