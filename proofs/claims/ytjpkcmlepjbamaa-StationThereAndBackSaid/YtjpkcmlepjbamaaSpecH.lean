/- Plain functions: pairs of numbers in their order; the first two exchanges that contradict each other. No program. -/
import Derived.Test.YtjpkcmlepjbamaaSpecG
namespace Go.Sky

def rowP (m i : Nat) : List (Nat × Nat) := (List.range (m - (i + 1))).map fun e => (i, i + 1 + e)
def upToP (m i j : Nat) : List (Nat × Nat) := (List.range i).flatMap (rowP m) ++ (List.range (j - (i + 1))).map fun e => (i, i + 1 + e)
def pairsL (m : Nat) : List (Nat × Nat) := (List.range m).flatMap (rowP m)

theorem upToP_step (m : Nat) {i j : Nat} (hij : i < j) : upToP m i (j + 1) = upToP m i j ++ [(i, j)] := by
  unfold upToP
  rw [show j + 1 - (i + 1) = (j - (i + 1)) + 1 by omega, List.range_succ, List.map_append, ← List.append_assoc]
  simp
  omega
theorem upToP_row (m i : Nat) : upToP m i m = upToP m (i + 1) (i + 2) := by
  unfold upToP
  rw [List.range_succ, List.flatMap_append]
  simp [rowP]
theorem upToP_start (m : Nat) : upToP m 0 1 = [] := by simp [upToP]
theorem upToP_end (m : Nat) : upToP m m (m + 1) = pairsL m := by
  unfold upToP pairsL
  simp
theorem upToP_prefix {m i j : Nat} (hi : i < m) (hj : j ≤ m) : upToP m i j <+: pairsL m := by
  have h1 : upToP m i j <+: upToP m i m := by
    unfold upToP
    refine (List.prefix_append_right_inj _).2 ?_
    have : (List.range (j - (i + 1))) <+: List.range (m - (i + 1)) := by
      rw [show m - (i + 1) = (j - (i + 1)) + (m - (i + 1) - (j - (i + 1))) by omega, List.range_add]
      exact List.prefix_append _ _
    exact this.map _
  refine h1.trans ?_
  unfold upToP pairsL
  have h2 : (List.range m).flatMap (rowP m) = (List.range i).flatMap (rowP m) ++ (rowP m i ++ ((List.range (m - (i + 1))).map (fun x => i + 1 + x)).flatMap (rowP m)) := by
    conv => lhs; rw [show m = i + 1 + (m - (i + 1)) by omega]
    rw [List.range_add, List.flatMap_append, List.range_succ, List.flatMap_append]
    rw [show i + 1 + (m - (i + 1)) = m by omega]
    simp
  rw [h2]
  refine (List.prefix_append_right_inj _).2 ?_
  exact List.prefix_append _ _
theorem upToP_lt {m i j : Nat} (hi : i < j) (hj : j < m) : (upToP m i j).length < (pairsL m).length := by
  have h := upToP_prefix (m := m) (i := i) (j := j + 1) (by omega) (by omega)
  rw [upToP_step m hi] at h
  have := h.length_le
  simp at this
  omega
theorem pairsL_mem {m : Nat} {p : Nat × Nat} (h : p ∈ pairsL m) : p.1 < p.2 ∧ p.2 < m := by
  unfold pairsL at h
  obtain ⟨i, hi, hp⟩ := List.mem_flatMap.1 h
  unfold rowP at hp
  obtain ⟨e, he, rfl⟩ := List.mem_map.1 hp
  have h1 := List.mem_range.1 hi
  have h2 := List.mem_range.1 he
  dsimp only
  omega

/-- Whether two ranges have nothing in common. -/
def clashR (a b : Int × Int) : Bool := !decide ((comS [a, b]).1 ≤ (comS [a, b]).2)
def clashAt (l : List (Int × Int)) (p : Nat × Nat) : Bool := clashR (l.getD p.1 (0, 0)) (l.getD p.2 (0, 0))
def contraS (xs : List Exch) (d t : Int) : (Int × Int) × Int :=
  if offsErr xs d t = 0 then
    match (pairsL xs.length).find? (clashAt (xs.map (offBy · d t))) with
    | some p => (((p.1 : Int), (p.2 : Int)), 0)
    | none => ((0, 0), 12)
  else ((0, 0), offsErr xs d t)

theorem find_hit {α : Type} {p : α → Bool} {l q : List α} {x : α} (h : q ++ [x] <+: l) (hq : ∀ y ∈ q, p y = false) (hx : p x = true) : l.find? p = some x := by
  obtain ⟨r, rfl⟩ := h
  rw [List.find?_append, List.find?_append]
  have h1 : q.find? p = none := by
    rw [List.find?_eq_none]
    intro y hy
    rw [hq y hy]
    simp
  rw [h1]
  simp [hx]
theorem find_miss {α : Type} {p : α → Bool} {l : List α} (h : ∀ y ∈ l, p y = false) : l.find? p = none := by
  rw [List.find?_eq_none]
  intro y hy
  rw [h y hy]
  simp
end Go.Sky
