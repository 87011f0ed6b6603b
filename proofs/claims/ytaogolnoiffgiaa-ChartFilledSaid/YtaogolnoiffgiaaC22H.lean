/- Results that lie in cells, two of them; a read row behind a store elsewhere. No program.
   Slices of slices. No program. -/
import Derived.BigQuiet
import Derived.Deep.AppendLies
import Derived.Deep.Draws
import Derived.Deep.Quiet
import Derived.Deep.QuietTactic
import Derived.Laws.Rows
import Derived.Lib.Hide
import Derived.OrdersIn
import Derived.RangeFuncCalls
import Derived.StillTail
import Derived.TacticsIn
import Derived.WalkKit
import Derived.Test.YtaogolnoiffgiaaC22E

namespace Go.Sky
open Go.RowKit

section
variable {P : Program}
theorem results_cc {fn : Func} {p q : Tmp} {ty tz : TypeId} (h : fn.results = #[.cell p ty, .cell q tz]) (tmps : Array Value) (w : World) (g g' : Nat) (t t' : TypeId) (cs ds : Array Value) (fr fr' : Nat × Nat) (d d' : TypeDesc)
    (hp : tmps.getD p undef = .pointer (some ⟨g, 0, none⟩)) (hg : w.heap[g]? = some (.cells cs t fr))
    (hu : P.underlying ty = some d) (hd : (match d with | .struct _ | .array _ _ => true | _ => false) = true) (hi : (P.info? ty).map (·.size) = some cs.size)
    (hp' : tmps.getD q undef = .pointer (some ⟨g', 0, none⟩)) (hg' : w.heap[g']? = some (.cells ds t' fr'))
    (hu' : P.underlying tz = some d') (hd' : (match d' with | .struct _ | .array _ _ => true | _ => false) = true) (hi' : (P.info? tz).map (·.size) = some ds.size) :
    (results fn tmps).run P w = .ok (.tuple #[.agg cs, .agg ds]) w := by
  have e1 : tmps[p]?.getD undef = .pointer (some ⟨g, 0, none⟩) := by simpa using hp
  have e2 : tmps[q]?.getD undef = .pointer (some ⟨g', 0, none⟩) := by simpa using hp'
  simp [results, h, e1, e2, asAddr, run_loadVar_row w g t ty cs fr d hg hu hd hi, run_loadVar_row w g' t' tz ds fr' d' hg' hu' hd' hi']
theorem results_ct {fn : Func} {p u : Tmp} {ty : TypeId} (h : fn.results = #[.cell p ty, .tmp u]) (tmps : Array Value) (w : World) (g : Nat) (t : TypeId) (cs : Array Value) (fr : Nat × Nat) (d : TypeDesc) (v : Value)
    (hp : tmps.getD p undef = .pointer (some ⟨g, 0, none⟩)) (hg : w.heap[g]? = some (.cells cs t fr))
    (hu : P.underlying ty = some d) (hd : (match d with | .struct _ | .array _ _ => true | _ => false) = true) (hi : (P.info? ty).map (·.size) = some cs.size) (hv : tmps.getD u undef = v) :
    (results fn tmps).run P w = .ok (.tuple #[.agg cs, v]) w := by
  have e1 : tmps[p]?.getD undef = .pointer (some ⟨g, 0, none⟩) := by simpa using hp
  have e2 : tmps[u]?.getD undef = v := by simpa using hv
  simp [results, h, e1, e2, asAddr, run_loadVar_row w g t ty cs fr d hg hu hd hi]
end
theorem Rd.far {α : Type} {w : World} {k : Nat} {enc : α → List Value} {g n : Nat} {xs : List α} (h : Rd w k enc (some ⟨g, 0, none⟩) n xs) {p : Addr} (hp : g ≠ p.block) (u : Value) : Rd (w.setCell p u) k enc (some ⟨g, 0, none⟩) n xs := by
  refine ⟨h.1, fun hn => ?_⟩
  obtain ⟨b, o, e, hb, hc⟩ := h.2 hn
  have e' := e
  injection e' with e'
  injection e' with e1 e2
  subst e1
  refine ⟨g, o, e, by simpa using hb, fun i x hx j v hv => ?_⟩
  have hne : p ≠ (⟨g, o + i * k + j, none⟩ : Addr) := fun hh => hp (by rw [hh])
  have hcc := hc i x hx j v hv
  rw [← hcc]
  exact World.cell?_setCell_other (w := w) (v := u) (h := hne)
end Go.Sky

namespace Go.Sky
open Go.RowKit

structure SlV where
  A : Option Addr
  n : Nat
  c : Nat
def encSl (r : SlV) : List Value := [.slice r.A r.n r.c]
theorem encSl_len (r : SlV) : (encSl r).length = 1 := rfl
theorem encSl_one (r : SlV) : ∀ u ∈ encSl r, u.oneCell' = true := by intro u hu; simp [encSl] at hu; subst hu; rfl

def RowOf {α : Type} (w : World) (k : Nat) (enc : α → List Value) (r : SlV) (xs : List α) : Prop := r.n ≤ r.c ∧ Rd w k enc r.A r.n xs
def RowsAt {α : Type} (w : World) (k : Nat) (enc : α → List Value) (rv : List SlV) (rows : List (List α)) : Prop :=
  rows.length = rv.length ∧ ∀ (i : Nat) (r : SlV) (xs : List α), rv[i]? = some r → rows[i]? = some xs → RowOf w k enc r xs
/-- A slice of slices reads as a list of lists. -/
def RowsL {α : Type} (w : World) (k : Nat) (enc : α → List Value) (A : Option Addr) (n : Nat) (rows : List (List α)) : Prop :=
  ∃ rv : List SlV, Rd w 1 encSl A n rv ∧ RowsAt w k enc rv rows
section
variable {α : Type} {w W : World} {k n : Nat} {enc : α → List Value} {A : Option Addr} {rows : List (List α)} {rv : List SlV}
theorem RowOf.keep {r : SlV} {xs : List α} (h : RowOf w k enc r xs) (hn : New w W) : RowOf W k enc r xs := ⟨h.1, h.2.keep hn⟩
theorem RowsAt.keep (h : RowsAt w k enc rv rows) (hn : New w W) : RowsAt W k enc rv rows := ⟨h.1, fun i r xs hr hx => (h.2 i r xs hr hx).keep hn⟩
theorem RowsAt.nil : RowsAt w k enc [] [] := ⟨rfl, fun i r xs h => by simp at h⟩
theorem RowsAt.snoc {r : SlV} {xs : List α} (h : RowsAt w k enc rv rows) (hr : RowOf w k enc r xs) : RowsAt w k enc (rv ++ [r]) (rows ++ [xs]) := by
  refine ⟨by simp [h.1], fun i r' xs' h1 h2 => ?_⟩
  rw [List.getElem?_append] at h1 h2
  split at h1
  · rename_i hi
    rw [if_pos (by rw [h.1]; exact hi)] at h2
    exact h.2 i r' xs' h1 h2
  · rename_i hi
    rw [if_neg (by rw [h.1]; exact hi)] at h2
    rw [h.1] at h2
    rcases Nat.eq_zero_or_pos (i - rv.length) with h0 | h0
    · rw [h0] at h1 h2
      injection h1 with h1
      injection h2 with h2
      subst h1 h2
      exact hr
    · rw [List.getElem?_eq_none (by simp; omega)] at h1
      cases h1
theorem RowsL.keep (h : RowsL w k enc A n rows) (hn : New w W) : RowsL W k enc A n rows := by
  obtain ⟨rv, h1, h2⟩ := h
  exact ⟨rv, h1.keep hn, h2.keep hn⟩
theorem RowsL.len (h : RowsL w k enc A n rows) : rows.length = n := by
  obtain ⟨rv, h1, h2⟩ := h
  rw [h2.1, h1.len]
/-- A row of it. -/
theorem RowsL.at_ (h : RowsL w k enc A n rows) {i : Nat} (hi : i < n) :
    ∃ b o r xs, A = some ⟨b, o, none⟩ ∧ b < w.heap.size ∧ rows[i]? = some xs ∧ w.cell? ⟨b, o + i, none⟩ = some (.slice r.A r.n r.c) ∧ RowOf w k enc r xs := by
  obtain ⟨rv, h1, h2⟩ := h
  obtain ⟨b, o, r, hA, hb, hr, hc⟩ := h1.at_ hi
  have hx : i < rows.length := by rw [h2.1, h1.len]; exact hi
  refine ⟨b, o, r, rows[i], hA, hb, List.getElem?_eq_getElem hx, ?_, h2.2 i r _ hr (List.getElem?_eq_getElem hx)⟩
  have := hc 0 _ rfl
  simpa using this
theorem RowOf.len {r : SlV} {xs : List α} (h : RowOf w k enc r xs) : xs.length = r.n := h.2.len
end
/-- Rows of different elements lie in different blocks. -/
theorem own_apart2 {α β : Type} {w : World} {b1 e1 k1 n1 c1 b2 e2 k2 n2 c2 : Nat} {enc1 : α → List Value} {enc2 : β → List Value} {A1 A2 : Option Addr} {xs : List α} {ys : List β}
    (h1 : Own w b1 e1 k1 enc1 A1 n1 c1 xs) (h2 : Own w b2 e2 k2 enc2 A2 n2 c2 ys) (he : e1 ≠ e2) : A1.map (·.block) = none ∨ A1.map (·.block) ≠ A2.map (·.block) := by
  rcases h1.2.2.2 with ⟨hv, _⟩ | ⟨g, c, cur, hv, hb, hg, _⟩
  · injection hv with hv; subst hv; exact .inl rfl
  · right
    injection hv with hv
    subst hv
    rcases h2.2.2.2 with ⟨hv, _⟩ | ⟨g', c', cur', hv, hb', hg', _⟩
    · injection hv with hv; subst hv; simp
    · injection hv with hv
      subst hv
      intro e
      simp at e
      subst e
      rw [hg] at hg'
      injection hg' with hg'
      injection hg' with _ h _
      exact he h
/-- A slice of slices of the call's own. -/
structure OwnRows {α : Type} (w : World) (B e1 e2 k : Nat) (enc : α → List Value) (A : Option Addr) (n c : Nat) (rv : List SlV) (rows : List (List α)) : Prop where
  own : Own w B e2 1 encSl A n c rv
  len : rows.length = rv.length
  each : ∀ (i : Nat) (r : SlV) (xs : List α), rv[i]? = some r → rows[i]? = some xs → Own w B e1 k enc r.A r.n r.c xs
section
variable {α : Type} {w W : World} {B e1 e2 k n c : Nat} {enc : α → List Value} {A : Option Addr} {rv : List SlV} {rows : List (List α)}
theorem OwnRows.nil : OwnRows (α := α) w B e1 e2 k enc none 0 0 [] [] := ⟨Own.nil _ _ _ _ encSl_len, rfl, fun i r xs h => by simp at h⟩
theorem OwnRows.keep (h : OwnRows w B e1 e2 k enc A n c rv rows) (hn : New w W) : OwnRows W B e1 e2 k enc A n c rv rows := ⟨h.own.keep hn, h.len, fun i r xs hr hx => (h.each i r xs hr hx).keep hn⟩
theorem OwnRows.snoc {A' : Option Addr} {c' : Nat} {r : SlV} {xs : List α} (h : OwnRows w B e1 e2 k enc A n c rv rows) (hr : Own w B e1 k enc r.A r.n r.c xs) (he : e1 ≠ e2)
    (ho : Own W B e2 1 encSl A' (n + 1) c' (rv ++ [r])) (hg : w.grownBy W (A.map (·.block))) : OwnRows W B e1 e2 k enc A' (n + 1) c' (rv ++ [r]) (rows ++ [xs]) := by
  refine ⟨ho, by simp [h.len], fun i r' xs' h1 h2 => ?_⟩
  rw [List.getElem?_append] at h1 h2
  split at h1
  · rename_i hi
    rw [if_pos (by rw [h.len]; exact hi)] at h2
    have := h.each i r' xs' h1 h2
    exact this.kept hg (own_apart2 this h.own he)
  · rename_i hi
    rw [if_neg (by rw [h.len]; exact hi)] at h2
    rw [h.len] at h2
    rcases Nat.eq_zero_or_pos (i - rv.length) with h0 | h0
    · rw [h0] at h1 h2
      injection h1 with h1
      injection h2 with h2
      subst h1 h2
      exact hr.kept hg (own_apart2 hr h.own he)
    · rw [List.getElem?_eq_none (by simp; omega)] at h1
      cases h1
theorem OwnRows.reads (h : OwnRows w B e1 e2 k enc A n c rv rows) : RowsL w k enc A n rows :=
  ⟨rv, h.own.rd, h.len, fun i r xs hr hx => ⟨(h.each i r xs hr hx).le.1, (h.each i r xs hr hx).rd⟩⟩
end
theorem bx_apart {α : Type} {w : World} {b t b2 e k n c : Nat} {cs : Array Value} {enc : α → List Value} {A : Option Addr} {xs : List α} (h : Bx w b t cs) (ho : Own w b2 e k enc A n c xs) (he : t ≠ e) : some b ≠ A.map (·.block) := by
  rcases ho.2.2.2 with ⟨hv, _⟩ | ⟨g, c', cur, hv, hb, hg, _⟩
  · injection hv with hv; subst hv; simp
  · injection hv with hv
    subst hv
    intro e2
    simp at e2
    subst e2
    unfold Bx at h
    rw [h] at hg
    injection hg with hg
    injection hg with _ h2 _
    exact he h2
end Go.Sky
