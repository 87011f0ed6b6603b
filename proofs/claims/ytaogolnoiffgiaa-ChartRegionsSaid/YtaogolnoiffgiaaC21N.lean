/- The contours of the reference: the side ahead, cycles of sides; the program's contours are the reference's. Plain Lean. -/
import Derived.BigQuiet
import Derived.Deep.AppendLies
import Derived.Deep.Draws
import Derived.Deep.Quiet
import Derived.Deep.QuietTactic
import Derived.Lib.Hide
import Derived.MapKept
import Derived.Maps.Keyed
import Derived.OrdersIn
import Derived.OwnWalkIn
import Derived.RangeFuncCalls
import Derived.Shelf.RegionOpen
import Derived.StillTail
import Derived.TacticsIn
import Derived.WalkKit
import Derived.Test.YtaogolnoiffgiaaC21M

namespace Go.Sky.Ch
open Go.RowKit Go.Sky

/-- A side of a region that is given by its cells: the cell to its left is in it, the one to its right is not. -/
def sideB (r : Int → Int → Bool) (s : Sd) : Bool :=
  if s.d = 0 then r s.x s.y && !r s.x (s.y - 1)
  else if s.d = 1 then r (s.x - 1) s.y && !r s.x s.y
  else if s.d = 2 then r (s.x - 1) (s.y - 1) && !r (s.x - 1) s.y
  else r s.x (s.y - 1) && !r (s.x - 1) (s.y - 1)
def IsSide (r : Int → Int → Bool) (s : Sd) : Prop := (0 ≤ s.d ∧ s.d ≤ 3) ∧ sideB r s = true
def aheadS (r : Int → Int → Bool) (s : Sd) : Sd := if sideB r (nextS s 1) = true then nextS s 1 else if sideB r (nextS s 0) = true then nextS s 0 else if sideB r (nextS s 3) = true then nextS s 3 else s
/-! ### Around a place: the four cells -/
def outV (A B C E : Bool) (d : Int) : Bool := if d = 0 then E && !B else if d = 1 then C && !E else if d = 2 then A && !C else B && !A
def inV (A B C E : Bool) (d : Int) : Bool := if d = 0 then C && !A else if d = 1 then A && !B else if d = 2 then B && !E else E && !C
def turnV (A B C E : Bool) (d : Int) : Int := if outV A B C E ((d + 1) % 4) = true then (d + 1) % 4 else if outV A B C E ((d + 0) % 4) = true then (d + 0) % 4 else (d + 3) % 4
theorem turn_out : ∀ (A B C E : Bool), ∀ d ∈ ([0, 1, 2, 3] : List Int), inV A B C E d = true → outV A B C E (turnV A B C E d) = true := by decide
theorem turn_one : ∀ (A B C E : Bool), ∀ d ∈ ([0, 1, 2, 3] : List Int), ∀ k ∈ ([0, 1, 2, 3] : List Int), inV A B C E d = true → inV A B C E k = true → turnV A B C E d = turnV A B C E k → d = k := by decide
theorem d_mem {d : Int} (h : 0 ≤ d ∧ d ≤ 3) : d ∈ ([0, 1, 2, 3] : List Int) := by
  have : d = 0 ∨ d = 1 ∨ d = 2 ∨ d = 3 := by omega
  simpa using this
theorem turn_bd (A B C E : Bool) (d : Int) : 0 ≤ turnV A B C E d ∧ turnV A B C E d ≤ 3 := by
  unfold turnV; split
  · omega
  · split <;> omega
section
variable (r : Int → Int → Bool)
/-- The four cells at the end of a side. -/
def vA (s : Sd) : Bool := r (s.x + dxS s.d - 1) (s.y + dyS s.d - 1)
def vB (s : Sd) : Bool := r (s.x + dxS s.d) (s.y + dyS s.d - 1)
def vC (s : Sd) : Bool := r (s.x + dxS s.d - 1) (s.y + dyS s.d)
def vE (s : Sd) : Bool := r (s.x + dxS s.d) (s.y + dyS s.d)
theorem side_out (s : Sd) (t : Int) : sideB r (nextS s t) = outV (vA r s) (vB r s) (vC r s) (vE r s) ((s.d + t) % 4) := rfl
theorem side_in {s : Sd} (h : 0 ≤ s.d ∧ s.d ≤ 3) : sideB r s = inV (vA r s) (vB r s) (vC r s) (vE r s) s.d := by
  obtain ⟨x, y, d⟩ := s
  unfold sideB inV vA vB vC vE
  rcases (show d = 0 ∨ d = 1 ∨ d = 2 ∨ d = 3 by simp only at h; omega) with rfl | rfl | rfl | rfl
  · simp [dxS, dyS]
  · simp [dxS, dyS]
  · have e : x + -1 = x - 1 := by omega
    simp [dxS, dyS, e]
  · have e : y + -1 = y - 1 := by omega
    simp [dxS, dyS, e]
end
section
variable {r : Int → Int → Bool}
theorem ahead_turn {s : Sd} (h : IsSide r s) : aheadS r s = ⟨s.x + dxS s.d, s.y + dyS s.d, turnV (vA r s) (vB r s) (vC r s) (vE r s) s.d⟩ := by
  have hin := h.2
  rw [side_in r h.1] at hin
  have ho := turn_out _ _ _ _ _ (d_mem h.1) hin
  unfold aheadS
  rw [side_out, side_out, side_out]
  by_cases h1 : outV (vA r s) (vB r s) (vC r s) (vE r s) ((s.d + 1) % 4) = true
  · rw [if_pos h1]; unfold turnV; rw [if_pos h1]; rfl
  · rw [if_neg h1]
    by_cases h2 : outV (vA r s) (vB r s) (vC r s) (vE r s) ((s.d + 0) % 4) = true
    · rw [if_pos h2]; unfold turnV; rw [if_neg h1, if_pos h2]; rfl
    · rw [if_neg h2]
      have e : turnV (vA r s) (vB r s) (vC r s) (vE r s) s.d = (s.d + 3) % 4 := by unfold turnV; rw [if_neg h1, if_neg h2]
      rw [e] at ho
      rw [if_pos ho, e]
      rfl
theorem ahead_side {s : Sd} (h : IsSide r s) : IsSide r (aheadS r s) := by
  have hin := h.2
  rw [side_in r h.1] at hin
  have ho := turn_out _ _ _ _ _ (d_mem h.1) hin
  rw [ahead_turn h]
  exact ⟨turn_bd _ _ _ _ _, ho⟩
theorem ahead_x {s : Sd} (h : IsSide r s) : (aheadS r s).x = s.x + dxS s.d := by rw [ahead_turn h]
theorem ahead_y {s : Sd} (h : IsSide r s) : (aheadS r s).y = s.y + dyS s.d := by rw [ahead_turn h]
theorem ahead_inj {s t : Sd} (h : IsSide r s) (k : IsSide r t) (e : aheadS r s = aheadS r t) : s = t := by
  rw [ahead_turn h, ahead_turn k] at e
  injection e with ex ey ed
  have i1 := h.2
  have i2 := k.2
  rw [side_in r h.1] at i1
  rw [side_in r k.1] at i2
  have a1 : vA r t = vA r s := by unfold vA; rw [ex, ey]
  have a2 : vB r t = vB r s := by unfold vB; rw [ex, ey]
  have a3 : vC r t = vC r s := by unfold vC; rw [ex, ey]
  have a4 : vE r t = vE r s := by unfold vE; rw [ex, ey]
  rw [a1, a2, a3, a4] at i2 ed
  have hd := turn_one _ _ _ _ _ (d_mem h.1) _ (d_mem k.1) i1 i2 ed
  obtain ⟨x, y, d⟩ := s
  obtain ⟨x', y', d'⟩ := t
  simp only at hd ex ey
  subst hd
  have : x = x' := by omega
  have : y = y' := by omega
  subst_vars
  rfl
/-- Where a contour closes, no other side begins that is not used. -/
theorem closing {U : List Sd} {a u : Sd} (hU : ∀ q, IsSide r q → aheadS r q ∈ U → q ∈ U) (hU2 : ∀ q, IsSide r q → q ∈ U → aheadS r q ∈ U) (ha : IsSide r a) (haU : a ∉ U) (hu : IsSide r u) (huU : u ∉ U) (hx : u.x = a.x) (hy : u.y = a.y)
    (hmin : ∀ q, IsSide r q → LtSd q a → q ∈ U) : u = a := by
  obtain ⟨x, y, d⟩ := a
  obtain ⟨x', y', k⟩ := u
  simp only at hx hy
  subst hx hy
  have h1 := ha.2
  have h2 := hu.2
  obtain ⟨hd, _⟩ := ha
  obtain ⟨hk, _⟩ := hu
  simp only at hd hk
  have q1 : sideB r ⟨x', y' - 1, 1⟩ = (r (x' - 1) (y' - 1) && !r x' (y' - 1)) := rfl
  have n1 : nextS ⟨x', y' - 1, 1⟩ 1 = ⟨x', y', 2⟩ := by simp [nextS, dxS, dyS]
  have q2 : sideB r ⟨x' - 1, y', 0⟩ = (r (x' - 1) y' && !r (x' - 1) (y' - 1)) := rfl
  have n2 : nextS ⟨x' - 1, y', 0⟩ 1 = ⟨x', y', 1⟩ := by simp [nextS, dxS, dyS]
  unfold sideB at h1 h2
  rcases (show d = 0 ∨ d = 1 ∨ d = 2 ∨ d = 3 by omega) with rfl | rfl | rfl | rfl <;> rcases (show k = 0 ∨ k = 1 ∨ k = 2 ∨ k = 3 by omega) with rfl | rfl | rfl | rfl
  all_goals simp at h1 h2
  all_goals first | rfl | (exfalso; simp_all; done) | skip
  · -- right and left
    exfalso
    have s1 : IsSide r ⟨x', y' - 1, 1⟩ := ⟨by show (0 : Int) ≤ 1 ∧ (1 : Int) ≤ 3; decide, by rw [q1]; simp_all⟩
    have e1 : aheadS r ⟨x', y' - 1, 1⟩ = ⟨x', y', 2⟩ := by unfold aheadS; rw [n1, if_pos (by unfold sideB; simp_all)]
    have := hU2 _ s1 (hmin _ s1 (.inl (by show y' - 1 < y'; omega)))
    rw [e1] at this
    exact huU this
  · -- upwards and downwards
    exfalso
    have s1 : IsSide r ⟨x' - 1, y', 0⟩ := ⟨by show (0 : Int) ≤ 0 ∧ (0 : Int) ≤ 3; decide, by rw [q2]; simp_all⟩
    have e1 : aheadS r ⟨x' - 1, y', 0⟩ = ⟨x', y', 1⟩ := by unfold aheadS; rw [n2, if_pos (by unfold sideB; simp_all)]
    have := hU2 _ s1 (hmin _ s1 (.inr ⟨rfl, .inl (by show x' - 1 < x'; omega)⟩))
    rw [e1] at this
    exact haU this
  · -- left and right
    exfalso
    have s1 : IsSide r ⟨x', y' - 1, 1⟩ := ⟨by show (0 : Int) ≤ 1 ∧ (1 : Int) ≤ 3; decide, by rw [q1]; simp_all⟩
    have e1 : aheadS r ⟨x', y' - 1, 1⟩ = ⟨x', y', 2⟩ := by unfold aheadS; rw [n1, if_pos (by unfold sideB; simp_all)]
    have := hU2 _ s1 (hmin _ s1 (.inl (by show y' - 1 < y'; omega)))
    rw [e1] at this
    exact haU this
  · -- downwards and upwards
    exfalso
    have s0 : IsSide r ⟨x', y', 3⟩ := ⟨by show (0 : Int) ≤ 3 ∧ (3 : Int) ≤ 3; decide, by unfold sideB; simp_all⟩
    have s1 := ahead_side s0
    have := hmin _ s1 (.inl (by rw [ahead_y s0]; show y' + dyS 3 < y'; rw [show dyS 3 = -1 by decide]; omega))
    exact haU (hU _ s0 this)
end
/-! ### Cycles -/
structure Cyc (f : Sd → Sd) (a : Sd) (P : List Sd) : Prop where
  first : P[0]? = some a
  chain : ∀ (i : Nat) (x y : Sd), P[i]? = some x → P[i + 1]? = some y → f x = y
  close : ∀ (x : Sd), P[P.length - 1]? = some x → f x = a
  inj : ∀ (i j : Nat) (x : Sd), P[i]? = some x → P[j]? = some x → i = j
theorem snoc_inj {p : List Sd} {s : Sd} (h : ∀ (i j : Nat) (x : Sd), p[i]? = some x → p[j]? = some x → i = j) (hs : s ∉ p) : ∀ (i j : Nat) (x : Sd), (p ++ [s])[i]? = some x → (p ++ [s])[j]? = some x → i = j := by
  intro i j x hi hj
  rw [List.getElem?_append] at hi hj
  split at hi <;> split at hj
  · exact h i j x hi hj
  · rename_i h1 h2
    have hj0 : j - p.length = 0 := by have := (List.getElem?_eq_some_iff.1 hj).1; simp at this; omega
    rw [hj0] at hj
    simp at hj
    subst hj
    exact absurd (List.mem_of_getElem? hi) hs
  · rename_i h1 h2
    have hi0 : i - p.length = 0 := by have := (List.getElem?_eq_some_iff.1 hi).1; simp at this; omega
    rw [hi0] at hi
    simp at hi
    subst hi
    exact absurd (List.mem_of_getElem? hj) hs
  · have := (List.getElem?_eq_some_iff.1 hi).1
    have := (List.getElem?_eq_some_iff.1 hj).1
    simp at *
    omega
theorem cycle_go {f : Sd → Sd} {Q : Sd → Prop} (hf : ∀ s, Q s → Q (f s)) (hi : ∀ s t, Q s → Q t → f s = f t → s = t) (a : Sd) (N : Nat) : ∀ (n : Nat) (R p : List Sd) (now : Sd), R.length ≤ n → (∀ s, Q s → s ∉ p → s ∈ R) → Q now → now ∉ p → (∀ s ∈ p, Q s) → (p ++ [now])[0]? = some a →
    (∀ (i : Nat) (x y : Sd), (p ++ [now])[i]? = some x → (p ++ [now])[i + 1]? = some y → f x = y) → (∀ (i j : Nat) (x : Sd), p[i]? = some x → p[j]? = some x → i = j) → p.length + R.length ≤ N →
    ∃ P, Cyc f a P ∧ (∀ s ∈ P, Q s) ∧ P.length ≤ N
  | 0, R, p, now, hn, hR, hq, hp, _, _, _, _, _ => by
    have := hR now hq hp
    have h0 : R = [] := List.eq_nil_of_length_eq_zero (by omega)
    rw [h0] at this
    cases this
  | n + 1, R, p, now, hn, hR, hq, hp, hpq, h0, hch, hinj, hN => by
    have hmem := hR now hq hp
    have hlt := filter_lt hmem
    have hinj2 := snoc_inj hinj hp
    by_cases ht : f now ∈ p ++ [now]
    · refine ⟨p ++ [now], ⟨h0, hch, ?_, hinj2⟩, ?_, by simp; omega⟩
      · intro x hx
        have e : x = now := by simpa using hx.symm
        subst e
        obtain ⟨j, hj⟩ := List.mem_iff_getElem?.1 ht
        cases j with
        | zero =>
          rw [h0] at hj
          injection hj with hj
          exact hj.symm
        | succ j =>
          exfalso
          have hlt2 := (List.getElem?_eq_some_iff.1 hj).1
          have hjx : ∃ z, (p ++ [x])[j]? = some z := ⟨_, List.getElem?_eq_getElem (by omega)⟩
          obtain ⟨z, hz⟩ := hjx
          have hfz := hch j z _ hz hj
          have hzq : Q z := by
            rcases List.mem_append.1 (List.mem_of_getElem? hz) with h | h
            · exact hpq z h
            · rw [List.mem_singleton] at h; rw [h]; exact hq
          have hzx := hi z x hzq hq hfz
          subst hzx
          have := hinj2 j p.length z hz (by simp)
          simp at hlt2
          omega
      · intro s hs
        rcases List.mem_append.1 hs with h | h
        · exact hpq s h
        · rw [List.mem_singleton] at h; rw [h]; exact hq
    · refine cycle_go hf hi a N n (R.filter (· != now)) (p ++ [now]) (f now) (by omega) ?_ (hf _ hq) ht ?_ ?_ ?_ hinj2 (by simp; omega)
      · intro s hs hns
        refine List.mem_filter.2 ⟨hR s hs (fun h => hns (List.mem_append_left _ h)), ?_⟩
        have : s ≠ now := fun e => hns (by rw [e]; simp)
        simp [this]
      · intro s hs
        rcases List.mem_append.1 hs with h | h
        · exact hpq s h
        · rw [List.mem_singleton] at h; rw [h]; exact hq
      · rw [List.getElem?_append_left (by simp)]; exact h0
      · intro i x y hx hy
        rcases Nat.lt_or_ge (i + 1) (p ++ [now]).length with h | h
        · rw [List.getElem?_append_left h] at hy
          rw [List.getElem?_append_left (by omega)] at hx
          exact hch i x y hx hy
        · have hl := (List.getElem?_eq_some_iff.1 hy).1
          simp at hl h
          obtain rfl : i = p.length := by omega
          have e1 : x = now := by simpa using hx.symm
          have e2 : y = f now := by simpa using hy.symm
          rw [e1, e2]
theorem cycle_of {r : Int → Int → Bool} {L : List Sd} (hL : ∀ s, IsSide r s → s ∈ L) {a : Sd} (ha : IsSide r a) : ∃ P, Cyc (aheadS r) a P ∧ (∀ s ∈ P, IsSide r s) ∧ P.length ≤ L.length :=
  cycle_go (fun _ h => ahead_side h) (fun _ _ h k e => ahead_inj h k e) a L.length L.length L [] a (Nat.le_refl _) (fun s h _ => hL s h) ha (by simp) (by simp) rfl
    (fun i x y hx hy => by have := (List.getElem?_eq_some_iff.1 hy).1; simp at this) (fun i j x h => by simp at h) (by simp)
section
variable {f : Sd → Sd} {a : Sd} {P : List Sd}
theorem Cyc.pos (h : Cyc f a P) : 0 < P.length := (List.getElem?_eq_some_iff.1 h.first).1
theorem Cyc.next (h : Cyc f a P) {s : Sd} (hs : s ∈ P) : f s ∈ P := by
  obtain ⟨i, hi⟩ := List.mem_iff_getElem?.1 hs
  have hl := (List.getElem?_eq_some_iff.1 hi).1
  by_cases h1 : i + 1 < P.length
  · have h2 := List.getElem?_eq_getElem h1
    rw [h.chain i s _ hi h2]
    exact List.mem_of_getElem? h2
  · rw [h.close s (by rw [show P.length - 1 = i by omega]; exact hi)]
    exact List.mem_of_getElem? h.first
theorem Cyc.back (h : Cyc f a P) {Q : Sd → Prop} (hQ : ∀ s ∈ P, Q s) (hi : ∀ s t, Q s → Q t → f s = f t → s = t) {s : Sd} (hq : Q s) (hs : f s ∈ P) : s ∈ P := by
  obtain ⟨j, hj⟩ := List.mem_iff_getElem?.1 hs
  have hpos := h.pos
  cases j with
  | zero =>
    have h2 := List.getElem?_eq_getElem (show P.length - 1 < P.length by omega)
    have h3 := h.close _ h2
    rw [h.first] at hj
    injection hj with hj
    have hm := List.mem_of_getElem? h2
    have := hi _ s (hQ _ hm) hq (h3.trans hj)
    rw [← this]
    exact hm
  | succ j =>
    have hl := (List.getElem?_eq_some_iff.1 hj).1
    have h2 := List.getElem?_eq_getElem (show j < P.length by omega)
    have hm := List.mem_of_getElem? h2
    have := hi _ s (hQ _ hm) hq (h.chain j _ _ h2 hj)
    rw [← this]
    exact hm
theorem Cyc.step (h : Cyc f a P) {i : Nat} {s : Sd} (hs : P[i]? = some s) : (i + 1 < P.length ∧ P[i + 1]? = some (f s) ∧ f s ≠ a) ∨ (i + 1 = P.length ∧ f s = a) := by
  have hl := (List.getElem?_eq_some_iff.1 hs).1
  by_cases h1 : i + 1 < P.length
  · have h2 := List.getElem?_eq_getElem h1
    have h3 := h.chain i s _ hs h2
    rw [← h3] at h2
    refine .inl ⟨h1, h2, fun e => ?_⟩
    rw [e] at h2
    have := h.inj (i + 1) 0 a h2 h.first
    omega
  · exact .inr ⟨by omega, h.close s (by rw [show P.length - 1 = i by omega]; exact hs)⟩
end
/-- The sides from one on, up to the first. -/
def orbF (f : Sd → Sd) (a : Sd) : Nat → Sd → List Sd
  | 0, _ => []
  | n + 1, s => s :: if f s = a then [] else orbF f a n (f s)
theorem orb_drop {f : Sd → Sd} {a : Sd} {P : List Sd} (h : Cyc f a P) : ∀ (n i : Nat) (s : Sd), P[i]? = some s → P.length ≤ n + i → orbF f a n s = P.drop i
  | 0, i, s, hs, hn => by have := (List.getElem?_eq_some_iff.1 hs).1; omega
  | n + 1, i, s, hs, hn => by
    have hl := (List.getElem?_eq_some_iff.1 hs).1
    have hd : P.drop i = s :: P.drop (i + 1) := by
      rw [List.drop_eq_getElem_cons hl]
      congr 1
      rw [List.getElem?_eq_getElem hl] at hs
      injection hs
    rw [orbF, hd]
    rcases h.step hs with ⟨h1, h2, h3⟩ | ⟨h1, h2⟩
    · rw [if_neg h3, orb_drop h n (i + 1) _ h2 (by omega)]
    · rw [if_pos h2, List.drop_of_length_le (by omega)]
theorem orb_cyc {f : Sd → Sd} {a : Sd} {P : List Sd} (h : Cyc f a P) {n : Nat} (hn : P.length ≤ n) : orbF f a n a = P := by
  rw [orb_drop h n 0 a h.first (by omega)]; rfl
/-! ### The program's contour is the cycle -/
def atS (s : Sd) : Int × Int := (s.x, s.y)
theorem follow_ahead {r : Int → Int → Bool} {R : List Sd} {s : Sd} (hR : ∀ q ∈ R, sideB r q = true) (hs : s ∉ R) (h : aheadS r s ∈ R) : followS R s = aheadS r s := by
  unfold aheadS at h ⊢
  unfold followS
  by_cases h1 : sideB r (nextS s 1) = true
  · rw [if_pos h1] at h ⊢
    rw [if_pos h]
  · rw [if_neg h1] at h ⊢
    rw [if_neg (fun k => h1 (hR _ k))]
    by_cases h2 : sideB r (nextS s 0) = true
    · rw [if_pos h2] at h ⊢
      rw [if_pos h]
    · rw [if_neg h2] at h ⊢
      rw [if_neg (fun k => h2 (hR _ k))]
      by_cases h3 : sideB r (nextS s 3) = true
      · rw [if_pos h3] at h ⊢
        rw [if_pos h]
      · rw [if_neg h3] at h
        exact absurd h hs
theorem follow_none {R : List Sd} {s : Sd} (h : ∀ t, nextS s t ∉ R) : followS R s = s := by
  unfold followS
  rw [if_neg (h 1), if_neg (h 0), if_neg (h 3)]
theorem walk_cyc {r : Int → Int → Bool} {a : Sd} {P U : List Sd} (hc : Cyc (aheadS r) a P) (hP : ∀ s ∈ P, IsSide r s) (hPU : ∀ s ∈ P, s ∉ U) (K : ∀ u, IsSide r u → u ∉ U → u.x = a.x → u.y = a.y → u = a) :
    ∀ (n i : Nat) (R : List Sd) (s : Sd), P[i]? = some s → (∀ q, q ∈ R ↔ IsSide r q ∧ q ∉ U ∧ q ∉ P.take i) → R.length < n →
      (walkS n R s).2 = (P.drop i).map atS ∧ ∀ q, q ∈ (walkS n R s).1 ↔ IsSide r q ∧ q ∉ U ∧ q ∉ P
  | 0, i, R, s, _, _, hn => absurd hn (by omega)
  | n + 1, i, R, s, hs, hR, hn => by
    have hl := (List.getElem?_eq_some_iff.1 hs).1
    have hsP := List.mem_of_getElem? hs
    have htake : s ∉ P.take i := by
      intro hm
      obtain ⟨j, hj⟩ := List.mem_iff_getElem?.1 hm
      have hjl := (List.getElem?_eq_some_iff.1 hj).1
      rw [List.length_take] at hjl
      rw [List.getElem?_take, if_pos (by omega)] at hj
      have := hc.inj j i s hj hs
      omega
    have hsR : s ∈ R := (hR s).2 ⟨hP s hsP, hPU s hsP, htake⟩
    have hd : P.drop i = s :: P.drop (i + 1) := by
      rw [List.drop_eq_getElem_cons hl]
      congr 1
      rw [List.getElem?_eq_getElem hl] at hs
      injection hs
    have hR1 : ∀ q, q ∈ R.filter (· != s) ↔ IsSide r q ∧ q ∉ U ∧ q ∉ P.take (i + 1) := by
      intro q
      rw [List.mem_filter, hR q, take_snoc P i s hs, List.mem_append, List.mem_singleton]
      constructor
      · rintro ⟨⟨h1, h2, h3⟩, h4⟩
        exact ⟨h1, h2, fun h => h.elim h3 (by simpa using h4)⟩
      · rintro ⟨h1, h2, h3⟩
        refine ⟨⟨h1, h2, fun h => h3 (.inl h)⟩, ?_⟩
        have : q ≠ s := fun e => h3 (.inr e)
        simp [this]
    have hlt := filter_lt hsR
    have hsn : s ∉ R.filter (· != s) := by simp
    rw [walkS_in hsR, hd, List.map_cons]
    dsimp only
    rcases hc.step hs with ⟨h1, h2, _⟩ | ⟨h1, h2⟩
    · have hin : aheadS r s ∈ R.filter (· != s) := by
        have hm := List.mem_of_getElem? h2
        refine (hR1 _).2 ⟨hP _ hm, hPU _ hm, fun h => ?_⟩
        obtain ⟨j, hj⟩ := List.mem_iff_getElem?.1 h
        have hjl := (List.getElem?_eq_some_iff.1 hj).1
        rw [List.length_take] at hjl
        rw [List.getElem?_take, if_pos (by omega)] at hj
        have := hc.inj j (i + 1) _ hj h2
        omega
      rw [follow_ahead (fun q hq => ((hR1 q).1 hq).1.2) hsn hin]
      obtain ⟨w1, w2⟩ := walk_cyc hc hP hPU K n (i + 1) _ _ h2 hR1 (by omega)
      exact ⟨by rw [w1]; rfl, w2⟩
    · have hno : ∀ t, nextS s t ∉ R.filter (· != s) := by
        intro t ht
        obtain ⟨g1, g2, g3⟩ := (hR1 _).1 ht
        have e := K _ g1 g2 (by rw [← h2, ahead_x (hP s hsP)]; rfl) (by rw [← h2, ahead_y (hP s hsP)]; rfl)
        rw [e] at g3
        apply g3
        have h0 := hc.first
        have : (P.take (i + 1))[0]? = some a := by rw [List.getElem?_take, if_pos (by omega)]; exact h0
        exact List.mem_of_getElem? this
      rw [follow_none hno, walkS_out hsn]
      refine ⟨by rw [List.drop_of_length_le (by omega)]; rfl, fun q => ?_⟩
      rw [hR1 q, h1, List.take_length]
/-! ### All contours -/
def refStep (r : Int → Int → Bool) (N : Nat) (st : List Sd × List (List (Int × Int))) (s : Sd) : List Sd × List (List (Int × Int)) :=
  if sideB r s = true ∧ s ∉ st.1 then (st.1 ++ orbF (aheadS r) s N s, st.2 ++ [(orbF (aheadS r) s N s).map atS]) else st
theorem cont_ref {r : Int → Int → Bool} {L : List Sd} (hL : ∀ s, IsSide r s → s ∈ L) {N : Nat} (hN : L.length ≤ N) : ∀ (todo gone U rest : List Sd) (out : List (List (Int × Int))), (∀ s ∈ todo, IsSide r s) → todo.Pairwise (fun x y => ¬ LtSd y x) → (∀ q, IsSide r q → q ∈ gone ∨ q ∈ todo) → (∀ q ∈ gone, q ∈ U) →
    (∀ q, q ∈ rest ↔ IsSide r q ∧ q ∉ U) → (∀ q, IsSide r q → aheadS r q ∈ U → q ∈ U) → (∀ q, IsSide r q → q ∈ U → aheadS r q ∈ U) → (todo.foldl (refStep r N) (U, out)).2 = out ++ contS rest todo
  | [], gone, U, rest, out, _, _, _, _, _, _, _ => by simp [contS]
  | s :: t, gone, U, rest, out, hs, hp, hall, hg, hr, hU, hU2 => by
    rw [List.pairwise_cons] at hp
    have hss := hs s (List.mem_cons_self ..)
    have hmin : ∀ q, IsSide r q → LtSd q s → q ∈ U := by
      intro q hq hlt
      rcases hall q hq with h | h
      · exact hg q h
      · rcases List.mem_cons.1 h with h | h
        · subst h; unfold LtSd at hlt; omega
        · exact absurd hlt (hp.1 q h)
    rw [List.foldl_cons, contS]
    by_cases hsU : s ∈ U
    · have hsr : s ∉ rest := fun h => ((hr s).1 h).2 hsU
      rw [walkS_out hsr, if_pos rfl, List.nil_append]
      have e : refStep r N (U, out) s = (U, out) := by unfold refStep; rw [if_neg (fun h => h.2 hsU)]
      rw [e]
      exact cont_ref hL hN t (s :: gone) U rest out (fun q h => hs q (List.mem_cons_of_mem _ h)) hp.2 (fun q hq => by
        rcases hall q hq with h | h
        · exact .inl (List.mem_cons_of_mem _ h)
        · rcases List.mem_cons.1 h with h | h
          · exact .inl (by rw [h]; exact List.mem_cons_self ..)
          · exact .inr h) (fun q hq => by
        rcases List.mem_cons.1 hq with h | h
        · rw [h]; exact hsU
        · exact hg q h) hr hU hU2
    · obtain ⟨P, hc, hPs, hPl⟩ := cycle_of hL hss
      have hPU : ∀ q ∈ P, q ∉ U := by
        -- a cycle that meets U lies in it
        have key : ∀ (i : Nat) (q : Sd), P[i]? = some q → q ∈ U → s ∈ U := by
          intro i
          induction i with
          | zero =>
            intro q hq hqU
            rw [hc.first] at hq
            injection hq with hq
            rw [hq]; exact hqU
          | succ i ih =>
            intro q hq hqU
            have hl := (List.getElem?_eq_some_iff.1 hq).1
            have h2 := List.getElem?_eq_getElem (show i < P.length by omega)
            have h3 := hc.chain i _ _ h2 hq
            exact ih _ h2 (hU _ (hPs _ (List.mem_of_getElem? h2)) (by rw [h3]; exact hqU))
        intro q hq hqU
        obtain ⟨i, hi⟩ := List.mem_iff_getElem?.1 hq
        exact hsU (key i q hi hqU)
      have hor : orbF (aheadS r) s N s = P := orb_cyc hc (by omega)
      have e : refStep r N (U, out) s = (U ++ P, out ++ [P.map atS]) := by unfold refStep; rw [if_pos ⟨hss.2, hsU⟩, hor]
      rw [e]
      obtain ⟨w1, w2⟩ := walk_cyc hc hPs hPU (fun u hu huU hx hy => closing hU hU2 hss hsU hu huU hx hy hmin) (rest.length + 1) 0 rest s hc.first (fun q => by rw [hr q]; simp) (by omega)
      rw [w1, List.drop_zero]
      have hne : P.map atS ≠ [] := by
        intro h
        rw [List.map_eq_nil_iff] at h
        have := hc.pos
        rw [h] at this
        simp at this
      rw [if_neg hne, cont_ref hL hN t (s :: gone) (U ++ P) _ (out ++ [P.map atS]) (fun q h => hs q (List.mem_cons_of_mem _ h)) hp.2 (fun q hq => by
        rcases hall q hq with h | h
        · exact .inl (List.mem_cons_of_mem _ h)
        · rcases List.mem_cons.1 h with h | h
          · exact .inl (by rw [h]; exact List.mem_cons_self ..)
          · exact .inr h) (fun q hq => by
        rcases List.mem_cons.1 hq with h | h
        · rw [h]; exact List.mem_append_right _ (List.mem_of_getElem? hc.first)
        · exact List.mem_append_left _ (hg q h)) (fun q => by rw [w2 q, List.mem_append]; constructor
                                                              · rintro ⟨h1, h2, h3⟩; exact ⟨h1, fun h => h.elim h2 h3⟩
                                                              · rintro ⟨h1, h2⟩; exact ⟨h1, fun h => h2 (.inl h), fun h => h2 (.inr h)⟩) (fun q hq h => by
        rcases List.mem_append.1 h with h | h
        · exact List.mem_append_left _ (hU q hq h)
        · exact List.mem_append_right _ (hc.back hPs (fun x y hx hy e => ahead_inj hx hy e) hq h)) (fun q hq h => by
        rcases List.mem_append.1 h with h | h
        · exact List.mem_append_left _ (hU2 q hq h)
        · exact List.mem_append_right _ (hc.next h)), List.append_assoc]
/-! ### All sides of a region -/
theorem inR_lt {n : Int} {k : Nat} : inR n 0 ((k : Int) - 1) = true ↔ 0 ≤ n ∧ n < (k : Int) := by rw [inR_iff]; omega
theorem isR_range {rows : List (List Int)} {x y : Int} (h : isR rows x y = true) : (0 ≤ x ∧ x < (len0 rows : Int)) ∧ (0 ≤ y ∧ y < (rows.length : Int)) := by
  unfold isR at h
  rw [Bool.and_eq_true, Bool.and_eq_true] at h
  exact ⟨inR_lt.1 h.1.2, inR_lt.1 h.1.1⟩
theorem mem_cell {rows : List (List Int)} {x y : Int} {s : Sd} : ∀ {n : Nat}, s ∈ cellSides rows x y n ↔ ∃ j : Nat, j < n ∧ isR rows (beyX x j) (beyY y j) = false ∧ s = ⟨cornX x j, cornY y j, j⟩
  | 0 => by simp [cellSides]
  | n + 1 => by
    rw [cellSides, List.mem_append, mem_cell (n := n)]
    constructor
    · rintro (⟨j, h1, h2, h3⟩ | h)
      · exact ⟨j, by omega, h2, h3⟩
      · split at h
        · cases h
        · rename_i h2
          exact ⟨n, by omega, by simpa using h2, by simpa using h⟩
    · rintro ⟨j, h1, h2, h3⟩
      rcases Nat.lt_or_ge j n with h | h
      · exact .inl ⟨j, h, h2, h3⟩
      · obtain rfl : j = n := by omega
        right
        rw [if_neg (by rw [h2]; decide)]
        simp [h3]
theorem mem_row {rows : List (List Int)} {y : Int} {s : Sd} : ∀ {n : Nat}, s ∈ rowSides rows y n ↔ ∃ x : Nat, x < n ∧ isR rows x y = true ∧ s ∈ cellSides rows x y 4
  | 0 => by simp [rowSides]
  | n + 1 => by
    rw [rowSides, List.mem_append, mem_row (n := n)]
    constructor
    · rintro (⟨j, h1, h2, h3⟩ | h)
      · exact ⟨j, by omega, h2, h3⟩
      · split at h
        · rename_i h2; exact ⟨n, by omega, h2, h⟩
        · cases h
    · rintro ⟨j, h1, h2, h3⟩
      rcases Nat.lt_or_ge j n with h | h
      · exact .inl ⟨j, h, h2, h3⟩
      · obtain rfl : j = n := by omega
        right
        rw [if_pos h2]
        exact h3
theorem mem_all {rows : List (List Int)} {s : Sd} : ∀ {n : Nat}, s ∈ allSides rows n ↔ ∃ y : Nat, y < n ∧ s ∈ rowSides rows y (len0 rows)
  | 0 => by simp [allSides]
  | n + 1 => by
    rw [allSides, List.mem_append, mem_all (n := n)]
    constructor
    · rintro (⟨j, h1, h2⟩ | h)
      · exact ⟨j, by omega, h2⟩
      · exact ⟨n, by omega, h⟩
    · rintro ⟨j, h1, h2⟩
      rcases Nat.lt_or_ge j n with h | h
      · exact .inl ⟨j, h, h2⟩
      · obtain rfl : j = n := by omega
        exact .inr h2
/-- The cell to the left of a side, and the one to the right. -/
def leftX (s : Sd) : Int := if s.d = 1 ∨ s.d = 2 then s.x - 1 else s.x
def leftY (s : Sd) : Int := if s.d = 2 ∨ s.d = 3 then s.y - 1 else s.y
theorem side_cells {r : Int → Int → Bool} {s : Sd} (h : 0 ≤ s.d ∧ s.d ≤ 3) : sideB r s = (r (leftX s) (leftY s) && !r (beyX (leftX s) s.d) (beyY (leftY s) s.d)) := by
  obtain ⟨x, y, d⟩ := s
  unfold sideB leftX leftY beyX beyY
  rcases (show d = 0 ∨ d = 1 ∨ d = 2 ∨ d = 3 by simp only at h; omega) with rfl | rfl | rfl | rfl <;> simp
theorem side_corner {s : Sd} (h : 0 ≤ s.d ∧ s.d ≤ 3) : cornX (leftX s) s.d = s.x ∧ cornY (leftY s) s.d = s.y := by
  obtain ⟨x, y, d⟩ := s
  unfold cornX cornY leftX leftY
  rcases (show d = 0 ∨ d = 1 ∨ d = 2 ∨ d = 3 by simp only at h; omega) with rfl | rfl | rfl | rfl <;> simp
theorem corner_left (x y d : Int) : leftX ⟨cornX x d, cornY y d, d⟩ = x ∧ leftY ⟨cornX x d, cornY y d, d⟩ = y := by
  unfold leftX leftY cornX cornY
  constructor
  · dsimp only; split <;> omega
  · dsimp only; split <;> omega
theorem mem_sides {rows : List (List Int)} {s : Sd} : s ∈ allSides rows rows.length ↔ IsSide (isR rows) s := by
  rw [mem_all]
  constructor
  · rintro ⟨y, hy, h⟩
    obtain ⟨x, hx, h1, h2⟩ := mem_row.1 h
    obtain ⟨j, hj, h3, rfl⟩ := mem_cell.1 h2
    have hd : (0 : Int) ≤ (j : Int) ∧ (j : Int) ≤ 3 := by omega
    refine ⟨hd, ?_⟩
    rw [side_cells hd, (corner_left _ _ _).1, (corner_left _ _ _).2, h1, h3]
    rfl
  · rintro ⟨hd, h⟩
    rw [side_cells hd, Bool.and_eq_true] at h
    obtain ⟨⟨x0, x1⟩, y0, y1⟩ := isR_range h.1
    refine ⟨(leftY s).toNat, by omega, mem_row.2 ⟨(leftX s).toNat, by omega, ?_, mem_cell.2 ⟨s.d.toNat, by omega, ?_, ?_⟩⟩⟩
    · rw [show (((leftX s).toNat : Nat) : Int) = leftX s by omega, show (((leftY s).toNat : Nat) : Int) = leftY s by omega]
      exact h.1
    · rw [show (((leftX s).toNat : Nat) : Int) = leftX s by omega, show (((leftY s).toNat : Nat) : Int) = leftY s by omega, show ((s.d.toNat : Nat) : Int) = s.d by omega]
      simpa using h.2
    · rw [show (((leftX s).toNat : Nat) : Int) = leftX s by omega, show (((leftY s).toNat : Nat) : Int) = leftY s by omega, show ((s.d.toNat : Nat) : Int) = s.d by omega, (side_corner hd).1, (side_corner hd).2]
theorem cell_nodup (rows : List (List Int)) (x y : Int) : ∀ n, (cellSides rows x y n).Nodup
  | 0 => List.nodup_nil
  | n + 1 => by
    rw [cellSides, List.nodup_append]
    refine ⟨cell_nodup rows x y n, by split <;> simp, fun a ha b hb e => ?_⟩
    subst e
    obtain ⟨j, hj, _, rfl⟩ := mem_cell.1 ha
    split at hb
    · cases hb
    · rw [List.mem_singleton] at hb
      injection hb with _ _ hd
      omega
theorem row_nodup (rows : List (List Int)) (y : Int) : ∀ n, (rowSides rows y n).Nodup
  | 0 => List.nodup_nil
  | n + 1 => by
    rw [rowSides, List.nodup_append]
    refine ⟨row_nodup rows y n, by split; exact cell_nodup _ _ _ _; exact List.nodup_nil, fun a ha b hb e => ?_⟩
    subst e
    obtain ⟨x, hx, _, h2⟩ := mem_row.1 ha
    obtain ⟨j, hj, _, rfl⟩ := mem_cell.1 h2
    split at hb
    · obtain ⟨k, hk, _, e⟩ := mem_cell.1 hb
      have e1 := congrArg leftX e
      rw [(corner_left _ _ _).1, (corner_left _ _ _).1] at e1
      omega
    · cases hb
theorem all_nodup (rows : List (List Int)) : ∀ n, (allSides rows n).Nodup
  | 0 => List.nodup_nil
  | n + 1 => by
    rw [allSides, List.nodup_append]
    refine ⟨all_nodup rows n, row_nodup _ _ _, fun a ha b hb e => ?_⟩
    subst e
    obtain ⟨y, hy, h⟩ := mem_all.1 ha
    obtain ⟨x, hx, _, h2⟩ := mem_row.1 h
    obtain ⟨j, hj, _, rfl⟩ := mem_cell.1 h2
    obtain ⟨x', hx', _, h2'⟩ := mem_row.1 hb
    obtain ⟨k, hk, _, e⟩ := mem_cell.1 h2'
    have e1 := congrArg leftY e
    rw [(corner_left _ _ _).2, (corner_left _ _ _).2] at e1
    omega
/-! ### The reference's order -/
def candCell (x y : Int) : Nat → List Sd
  | 0 => []
  | d + 1 => candCell x y d ++ [⟨x, y, d⟩]
def candRow (y : Int) : Nat → List Sd
  | 0 => []
  | x + 1 => candRow y x ++ candCell x y 4
def candAll (w : Nat) : Nat → List Sd
  | 0 => []
  | y + 1 => candAll w y ++ candRow y w
theorem mem_ccell {x y : Int} {s : Sd} : ∀ {n : Nat}, s ∈ candCell x y n ↔ ∃ j : Nat, j < n ∧ s = ⟨x, y, j⟩
  | 0 => by simp [candCell]
  | n + 1 => by
    rw [candCell, List.mem_append, mem_ccell (n := n), List.mem_singleton]
    constructor
    · rintro (⟨j, h1, h2⟩ | h)
      · exact ⟨j, by omega, h2⟩
      · exact ⟨n, by omega, h⟩
    · rintro ⟨j, h1, h2⟩
      rcases Nat.lt_or_ge j n with h | h
      · exact .inl ⟨j, h, h2⟩
      · obtain rfl : j = n := by omega
        exact .inr h2
theorem mem_crow {y : Int} {s : Sd} : ∀ {n : Nat}, s ∈ candRow y n ↔ ∃ x j : Nat, x < n ∧ j < 4 ∧ s = ⟨x, y, j⟩
  | 0 => by simp [candRow]
  | n + 1 => by
    rw [candRow, List.mem_append, mem_crow (n := n), mem_ccell]
    constructor
    · rintro (⟨x, j, h1, h2, h3⟩ | ⟨j, h1, h2⟩)
      · exact ⟨x, j, by omega, h2, h3⟩
      · exact ⟨n, j, by omega, h1, h2⟩
    · rintro ⟨x, j, h1, h2, h3⟩
      rcases Nat.lt_or_ge x n with h | h
      · exact .inl ⟨x, j, h, h2, h3⟩
      · obtain rfl : x = n := by omega
        exact .inr ⟨j, h2, h3⟩
theorem mem_call {w : Nat} {s : Sd} : ∀ {n : Nat}, s ∈ candAll w n ↔ ∃ x y j : Nat, x < w ∧ y < n ∧ j < 4 ∧ s = ⟨x, y, j⟩
  | 0 => by simp [candAll]
  | n + 1 => by
    rw [candAll, List.mem_append, mem_call (n := n), mem_crow]
    constructor
    · rintro (⟨x, y, j, h0, h1, h2, h3⟩ | ⟨x, j, h1, h2, h3⟩)
      · exact ⟨x, y, j, h0, by omega, h2, h3⟩
      · exact ⟨x, n, j, h1, by omega, h2, h3⟩
    · rintro ⟨x, y, j, h0, h1, h2, h3⟩
      rcases Nat.lt_or_ge y n with h | h
      · exact .inl ⟨x, y, j, h0, h, h2, h3⟩
      · obtain rfl : y = n := by omega
        exact .inr ⟨x, j, h0, h2, h3⟩
theorem ccell_sorted (x y : Int) : ∀ n, (candCell x y n).Pairwise LtSd
  | 0 => List.Pairwise.nil
  | n + 1 => by
    rw [candCell, List.pairwise_append]
    refine ⟨ccell_sorted x y n, List.pairwise_singleton _ _, fun a ha b hb => ?_⟩
    obtain ⟨j, hj, rfl⟩ := mem_ccell.1 ha
    rw [List.mem_singleton] at hb
    subst hb
    exact .inr ⟨rfl, .inr ⟨rfl, by show (j : Int) < (n : Int); omega⟩⟩
theorem crow_sorted (y : Int) : ∀ n, (candRow y n).Pairwise LtSd
  | 0 => List.Pairwise.nil
  | n + 1 => by
    rw [candRow, List.pairwise_append]
    refine ⟨crow_sorted y n, ccell_sorted _ _ _, fun a ha b hb => ?_⟩
    obtain ⟨x, j, hx, hj, rfl⟩ := mem_crow.1 ha
    obtain ⟨k, hk, rfl⟩ := mem_ccell.1 hb
    exact .inr ⟨rfl, .inl (by show (x : Int) < (n : Int); omega)⟩
theorem call_sorted (w : Nat) : ∀ n, (candAll w n).Pairwise LtSd
  | 0 => List.Pairwise.nil
  | n + 1 => by
    rw [candAll, List.pairwise_append]
    refine ⟨call_sorted w n, crow_sorted _ _, fun a ha b hb => ?_⟩
    obtain ⟨x, y, j, hx, hy, hj, rfl⟩ := mem_call.1 ha
    obtain ⟨x', k, hx', hk, rfl⟩ := mem_crow.1 hb
    exact .inl (by show (y : Int) < (n : Int); omega)
theorem LtSd.asymm {a b : Sd} (h : LtSd a b) : ¬ LtSd b a := by unfold LtSd at *; omega
theorem ssd_unique : ∀ (xs ys : List Sd), xs.Pairwise LtSd → ys.Pairwise LtSd → (∀ q, q ∈ xs ↔ q ∈ ys) → xs = ys
  | [], [], _, _, _ => rfl
  | [], y :: ys, _, _, h => by have := (h y).2 (List.mem_cons_self ..); cases this
  | x :: xs, [], _, _, h => by have := (h x).1 (List.mem_cons_self ..); cases this
  | x :: xs, y :: ys, hx, hy, h => by
    rw [List.pairwise_cons] at hx hy
    have e : x = y := by
      rcases List.mem_cons.1 ((h x).1 (List.mem_cons_self ..)) with h1 | h1
      · exact h1
      · rcases List.mem_cons.1 ((h y).2 (List.mem_cons_self ..)) with h2 | h2
        · exact h2.symm
        · exact absurd (hx.1 y h2) (LtSd.asymm (hy.1 x h1))
    subst e
    congr 1
    refine ssd_unique xs ys hx.2 hy.2 fun q => ⟨fun hq => ?_, fun hq => ?_⟩
    · rcases List.mem_cons.1 ((h q).1 (List.mem_cons_of_mem _ hq)) with h1 | h1
      · subst h1; exact absurd (hx.1 q hq) (LtSd.asymm (hx.1 q hq))
      · exact h1
    · rcases List.mem_cons.1 ((h q).2 (List.mem_cons_of_mem _ hq)) with h1 | h1
      · subst h1; exact absurd (hy.1 q hq) (LtSd.asymm (hy.1 q hq))
      · exact h1
theorem sorted_strict {ys : List Sd} (h : ys.Nodup) (k : ys.Pairwise fun a b => ¬ LtSd b a) : ys.Pairwise LtSd := by
  refine (List.Pairwise.and h k).imp ?_
  rintro a b ⟨h1, h2⟩
  exact Classical.byContradiction fun h3 => h1 (LtSd.total h3 h2)
/-- The reference's contours. -/
def refC (r : Int → Int → Bool) (N w h : Nat) : List Sd × List (List (Int × Int)) := (candAll w h).foldl (refStep r N) ([], [])
theorem fold_filter (r : Int → Int → Bool) (N : Nat) : ∀ (l : List Sd) (st : List Sd × List (List (Int × Int))), l.foldl (refStep r N) st = (l.filter (sideB r)).foldl (refStep r N) st
  | [], _ => rfl
  | s :: t, st => by
    rw [List.foldl_cons, List.filter_cons]
    by_cases h : sideB r s = true
    · rw [if_pos h, List.foldl_cons]; exact fold_filter r N t _
    · rw [if_neg h]
      have : refStep r N st s = st := by unfold refStep; rw [if_neg (fun k => h k.1)]
      rw [this]
      exact fold_filter r N t st
theorem cont_is {rows : List (List Int)} {ys : List Sd} (h1 : ys.Perm (allSides rows rows.length)) (h2 : ys.Pairwise fun a b => ¬ LtSd b a) {N : Nat} (hN : ys.length ≤ N) :
    (refC (isR rows) N (len0 rows + 1) (rows.length + 1)).2 = contS ys ys := by
  have hm : ∀ q, q ∈ ys ↔ IsSide (isR rows) q := fun q => (h1.mem_iff).trans mem_sides
  have hnd : ys.Nodup := h1.nodup_iff.2 (all_nodup rows rows.length)
  have hst := sorted_strict hnd h2
  have hc : (candAll (len0 rows + 1) (rows.length + 1)).filter (sideB (isR rows)) = ys := by
    refine ssd_unique _ _ ((call_sorted _ _).filter _) hst fun q => ?_
    rw [List.mem_filter, hm q]
    constructor
    · rintro ⟨h3, h4⟩
      obtain ⟨x, y, j, _, _, hj, rfl⟩ := mem_call.1 h3
      exact ⟨by show (0 : Int) ≤ (j : Int) ∧ (j : Int) ≤ 3; omega, h4⟩
    · intro hq
      refine ⟨?_, hq.2⟩
      have h4 := hq.2
      obtain ⟨hd, _⟩ := hq
      rw [side_cells hd, Bool.and_eq_true] at h4
      obtain ⟨⟨x0, x1⟩, y0, y1⟩ := isR_range h4.1
      have hx : 0 ≤ q.x ∧ q.x ≤ (len0 rows : Int) := by
        unfold leftX at x0 x1
        split at x0 <;> omega
      have hy : 0 ≤ q.y ∧ q.y ≤ (rows.length : Int) := by
        unfold leftY at y0 y1
        split at y0 <;> omega
      refine mem_call.2 ⟨q.x.toNat, q.y.toNat, q.d.toNat, by omega, by omega, by omega, ?_⟩
      obtain ⟨qx, qy, qd⟩ := q
      simp only at hd hx hy ⊢
      rw [show ((qx.toNat : Nat) : Int) = qx by omega, show ((qy.toNat : Nat) : Int) = qy by omega, show ((qd.toNat : Nat) : Int) = qd by omega]
  unfold refC
  rw [fold_filter, hc, cont_ref (L := ys) (fun s h => (hm s).2 h) hN ys [] [] ys [] (fun s h => (hm s).1 h) h2 (fun q h => .inr ((hm q).2 h)) (fun q h => by cases h) (fun q => by rw [hm q]; simp) (fun q _ h => by cases h) (fun q _ h => by cases h)]
  rfl
end Go.Sky.Ch
