/- Words for a row of rows that are all the call's own. -/
import Derived.BigQuiet
import Derived.BigRegion
import Derived.Deep.AppendLies
import Derived.Deep.Draws
import Derived.Deep.Quiet
import Derived.Deep.QuietTactic
import Derived.Laws.BitsAllLaws
import Derived.Lib.Hide
import Derived.Lib.SliceRun
import Derived.OrdersIn
import Derived.OwnWalkIn
import Derived.RangeFuncCalls
import Derived.Shelf.GgSortFunc.InsertionK
import Derived.Shelf.SlSortCmp.Insertion
import Derived.Shelf.SlSortCmp.NoneTotal
import Derived.Shelf.SlSortCmp.QuietGrown
import Derived.Shelf.SlSortCmp.WholeK
import Derived.Shelf.Spec.SlicesGrow
import Derived.StillTail
import Derived.TacticsIn
import Derived.Test.YtifppmbolpegpaaProg
import Derived.WalkKit
import Derived.WalkLawsBesides
import Derived.WalkSpells
import Derived.Test.YtifppmbolpegpaaC15D
import Derived.Test.YtifppmbolpegpaaC15U

namespace Go.Proofs.Ytifppmbolpegpaa
open Go.RowKit Go.Sky Go.Sort

/-- Rows of different elements lie in different blocks. -/
theorem own_apart {α β : Type} {w : World} {b1 e1 k1 n1 c1 b2 e2 k2 n2 c2 : Nat} {enc1 : α → List Value} {enc2 : β → List Value} {A1 A2 : Option Addr} {xs : List α} {ys : List β}
    (h1 : Sky.Own w b1 e1 k1 enc1 A1 n1 c1 xs) (h2 : Sky.Own w b2 e2 k2 enc2 A2 n2 c2 ys) (he : e1 ≠ e2) : A1.map (·.block) = none ∨ A1.map (·.block) ≠ A2.map (·.block) := by
  rcases h1.2.2.2 with ⟨hv, _⟩ | ⟨g, c, cur, hv, hb, hg, _⟩
  · injection hv with hv; subst hv; exact .inl rfl
  · right
    injection hv with hv
    subst hv
    rcases h2.2.2.2 with ⟨hv, _⟩ | ⟨g', c', cur', hv, hb', hg', _⟩
    · injection hv with hv; subst hv; simp
    · injection hv with hv
      subst hv
      intro e
      simp at e
      subst e
      rw [hg] at hg'
      injection hg' with hg'
      injection hg' with _ h _
      exact he h
theorem own_set_apart {α β : Type} {w : World} {b1 e1 k1 n1 c1 b2 e2 k2 n2 c2 : Nat} {enc1 : α → List Value} {enc2 : β → List Value} {A1 : Option Addr} {g : Nat} {xs : List α} {ys : List β}
    (h1 : Sky.Own w b1 e1 k1 enc1 A1 n1 c1 xs) (h2 : Sky.Own w b2 e2 k2 enc2 (some ⟨g, 0, none⟩) n2 c2 ys) (he : e1 ≠ e2) (o : Nat) (u : Value) : Sky.Own (w.setCell ⟨g, o, none⟩ u) b1 e1 k1 enc1 A1 n1 c1 xs := by
  refine h1.setOther ?_ u
  rcases own_apart h1 h2 he with h | h
  · rw [h]; simp
  · exact h

/-- A row of rows: the call's own, and each of its rows too. -/
structure NowS (w : World) (B : Nat) (A : Option Addr) (n c : Nat) (rows : List RowV) : Prop where
  own : Sky.Own w B 41 1 encV A n c rows
  each : ∀ r ∈ rows, Sky.Own w B 50 3 encRec r.A r.n r.c r.xs
theorem types_ne : (50 : Nat) ≠ 41 := by decide
theorem encV_len (r : RowV) : (encV r).length = 1 := rfl
theorem encV_one (r : RowV) : ∀ u ∈ encV r, u.oneCell' = true := by intro u hu; simp [encV] at hu; subst hu; rfl
theorem NowS.nil (w : World) (B : Nat) : NowS w B none 0 0 [] := ⟨Sky.Own.nil _ _ _ _ encV_len, fun r h => by cases h⟩
theorem NowS.keep {w W : World} {B n c : Nat} {A : Option Addr} {rows : List RowV} (h : NowS w B A n c rows) (hn : New w W) : NowS W B A n c rows := ⟨h.own.keep hn, fun r hr => (h.each r hr).keep hn⟩
theorem NowS.set {w : World} {B n c g : Nat} {rows : List RowV} (h : NowS w B (some ⟨g, 0, none⟩) n c rows) (j : Nat) (r : RowV) (hj : j < n) (hr : Sky.Own w B 50 3 encRec r.A r.n r.c r.xs) :
    NowS (w.setCell ⟨g, j, none⟩ (.slice r.A r.n r.c)) B (some ⟨g, 0, none⟩) n c (rows.set j r) := by
  refine ⟨h.own.set1 j r _ hj rfl, fun q hq => ?_⟩
  rcases List.mem_or_eq_of_mem_set hq with e | e
  · exact own_set_apart (h.each q e) h.own types_ne _ _
  · subst e; exact own_set_apart hr h.own types_ne _ _
theorem NowS.new {w w0 : World} {B n c g : Nat} {rows : List RowV} (h : NowS w B (some ⟨g, 0, none⟩) n c rows) (hn : New w0 w) (hB : w0.heap.size ≤ B) (j : Nat) (u : Value) : New w0 (w.setCell ⟨g, j, none⟩ u) := by
  refine hn.setCell ?_ u
  rcases h.own.form with ⟨h, _⟩ | ⟨g', h, hg, _⟩
  · cases h
  · injection h with h
    injection h with h
    show w0.heap.size ≤ g
    omega
/-- The row of rows has grown by one of the call's own. -/
theorem NowS.push {w w' : World} {B n c c' g : Nat} {A : Option Addr} {rows : List RowV} {r : RowV} (h : NowS w B A n c rows) (hr : Sky.Own w B 50 3 encRec r.A r.n r.c r.xs)
    (ho : Sky.Own w' B 41 1 encV (some ⟨g, 0, none⟩) (n + 1) c' (rows ++ [r])) (hg : w.grownBy w' (A.map (·.block))) : NowS w' B (some ⟨g, 0, none⟩) (n + 1) c' (rows ++ [r]) := by
  refine ⟨ho, fun q hq => ?_⟩
  rcases List.mem_append.1 hq with e | e
  · exact (h.each q e).kept hg (own_apart (h.each q e) h.own types_ne)
  · simp only [List.mem_singleton] at e
    subst e
    exact hr.kept hg (own_apart hr h.own types_ne)

/-- All that there is grows: the rows lie elsewhere. -/
def Apart (A : Option Addr) (rows : List RowV) : Prop := ∀ r ∈ rows, r.A.map (·.block) = none ∨ r.A.map (·.block) ≠ A.map (·.block)
theorem own_block_lt {α : Type} {w : World} {b e k n c : Nat} {enc : α → List Value} {A : Option Addr} {xs : List α} (h : Sky.Own w b e k enc A n c xs) {g : Nat} (hg : A.map (·.block) = some g) : b ≤ g ∧ g < w.heap.size := by
  rcases h.form with ⟨rfl, _⟩ | ⟨g', rfl, h1, h2, _⟩
  · cases hg
  · simp at hg; omega
/-- A row that is newer lies elsewhere. -/
theorem apart_new {α β : Type} {w W : World} {b1 e1 k1 n1 c1 b2 e2 k2 n2 c2 : Nat} {enc1 : α → List Value} {enc2 : β → List Value} {A1 A2 : Option Addr} {xs : List α} {ys : List β}
    (h1 : Sky.Own w b1 e1 k1 enc1 A1 n1 c1 xs) (h2 : Sky.Own W b2 e2 k2 enc2 A2 n2 c2 ys) (hb : w.heap.size ≤ b2) : A2.map (·.block) = none ∨ A2.map (·.block) ≠ A1.map (·.block) := by
  rcases ha : A2.map (·.block) with _ | g'
  · exact .inl ha
  · right
    intro e
    have q1 := own_block_lt h1 (e.symm.trans ha)
    have q2 := own_block_lt h2 ha
    omega

/-- append of a whole slice: where it lies is told too. -/
theorem wpList_pour_at {P : Program} (w : World) {ops : Array Oper} {rest : List Oper} {o : Oper} {a : Act} {Q : Exit → Act → World → Prop} (hgd : o.guard = none) (s x : Operand) (t : TypeId)
    (ho : o.op = .call { callee := .builtin .append, args := #[s, x], argTypes := #[t, t] })
    {α : Type} (e : TypeId) (i : TypeInfo) (z : Value) (k bytes : Nat) (ht : P.underlying t = some (.slice e)) (hi : P.info? e = some i) (hz : i.zero = some z)
    (hsize : i.size = k) (hby : i.bytes = bytes) (hzs : z.cells.size = k) (hsz : 0 < k)
    (base : Nat) (enc : α → List Value) (A : Option Addr) (n cap : Nat) (xs : List α) (hs : a.eval s = .slice A n cap) (hown : Sky.Own w base e k enc A n cap xs)
    (B : Option Addr) (m c : Nat) (ys : List α) (hx : a.eval x = .slice B m c) (hr : Rd w k enc B m ys) (h1 : ∀ x, ∀ u ∈ enc x, u.oneCell' = true)
    (h63 : n + m ≤ maxLen) (hbytes : (n + m) * bytes ≤ 140737488355328) (hbase : base ≤ w.heap.size)
    (h : ∀ A' cap' w', Sky.Own w' base e k enc A' (n + m) cap' (xs ++ ys) → w.grownBy w' (A.map (·.block)) → (A'.map (·.block) = A.map (·.block) ∨ A'.map (·.block) = some w.heap.size) → (∀ w0, New w0 w → w0.heap.size ≤ base → New w0 w') →
      wpList P ops Q rest (a.put o.dst (.slice A' (n + m) cap')) w') : wpList P ops Q (o :: rest) a w := by
  refine wpList_plain hgd fun K hK => ?_
  have hOb : Value.ownBlock (.slice A n cap) = A.map (·.block) := by cases A <;> rfl
  suffices hrun : ∃ A' cap' w', (Builtin.append_ #[t, t] o.type #[.slice A n cap, .slice B m c]).run P w = .ok (.slice A' (n + m) cap') w' ∧ Sky.Own w' base e k enc A' (n + m) cap' (xs ++ ys) ∧ w.grownBy w' (A.map (·.block)) ∧
      (A'.map (·.block) = A.map (·.block) ∨ A'.map (·.block) = some w.heap.size) by
    obtain ⟨A', cap', w', hr, h2, h3, h4⟩ := hrun
    unfold Oper.wp execOp
    simp only [ho, resolve, invoke, builtin, Sem.run_bind, Sem.run_pure, Result.andThen_ok, List.map_toArray, List.map_cons, List.map_nil, hs, hx, hr]
    exact hK _ _ (h A' cap' w' h2 h3 h4 (fun w0 hn hb0 => hn.grownOwn hown hb0 h3))
  rcases B with _ | ad
  · have hm : m = 0 := by
      rcases Nat.eq_zero_or_pos m with h0 | h0
      · exact h0
      · obtain ⟨b, o, e, _⟩ := hr.2 h0; cases e
    subst hm
    have hys : ys = [] := List.eq_nil_of_length_eq_zero hr.1
    subst hys
    exact ⟨A, cap, w, run_append_of_nil w base t o.type e i k ht hi _ n _ hown.2.2 c, by simpa using hown, World.grownBy.refl w _, .inl rfl⟩
  · have hnews : ∀ j u, (ys.flatMap enc)[j]? = some u → w.cell? (ad.add j) = some u := by
      intro j u hu
      rcases Nat.eq_zero_or_pos m with h0 | h0
      · subst h0
        have hys : ys = [] := List.eq_nil_of_length_eq_zero hr.1
        subst hys
        simp at hu
      · obtain ⟨b, o', e', _, hc⟩ := hr.2 h0
        injection e' with e'
        subst e'
        have hlen := flat_len hown.2.1 ys
        have hj : j < ys.length * k := by rw [← hlen]; exact (List.getElem?_eq_some_iff.1 hu).1
        have hdm := Nat.div_add_mod j k
        have hjk : j / k < ys.length := Nat.div_lt_of_lt_mul (by rw [Nat.mul_comm]; exact hj)
        have hmod : j % k < (enc ys[j / k]).length := by rw [hown.2.1]; exact Nat.mod_lt _ hsz
        have h2 := flat_at hown.2.1 ys (j / k) ys[j / k] (List.getElem?_eq_getElem hjk) (j % k) _ (List.getElem?_eq_getElem hmod)
        have hjj : j / k * k + j % k = j := by rw [Nat.mul_comm]; exact hdm
        rw [hjj, hu] at h2
        injection h2 with h2
        have h3 := hc (j / k) _ (List.getElem?_eq_getElem hjk) (j % k) _ (List.getElem?_eq_getElem hmod)
        rw [← h2] at h3
        rw [show o' + j / k * k + j % k = o' + j by omega] at h3
        unfold Addr.add
        split
        · rename_i hj0; subst hj0; exact h3
        · exact h3
    obtain ⟨v', w', hrun, h2, h3, _, h5⟩ := run_append_own_at (P := P) w base t o.type e i z k bytes ht hi hz hsize hby hzs hsz _ n _ hown.2.2 ad m c (ys.flatMap enc) (by rw [flat_len hown.2.1, hr.1]) hnews
      (by intro u hu; obtain ⟨x, _, hux⟩ := List.mem_flatMap.1 hu; exact h1 x u hux) h63 hbytes hbase
    have hv : ∃ A' cap', v' = .slice A' (n + m) cap' := by
      rcases h2.2 with ⟨hv, h0⟩ | ⟨g, cp, cur, hv, _⟩
      · exact ⟨none, 0, by rw [h0]; exact hv⟩
      · exact ⟨_, cp, hv⟩
    obtain ⟨A', cap', rfl⟩ := hv
    have hOb' : Value.ownBlock (.slice A' (n + m) cap') = A'.map (·.block) := by cases A' <;> rfl
    rw [hOb] at h3 h5
    rw [hOb'] at h5
    exact ⟨A', cap', w', hrun, ⟨by rw [List.length_append, hown.1, hr.1], hown.2.1, by rw [List.flatMap_append]; exact h2⟩, h3, h5⟩
end Go.Proofs.Ytifppmbolpegpaa
