/- Plain functions of chapter 9 (packing). No program. -/
import Derived.Test.YtjpkcmlepjbamaaSpecA
namespace Go.Sky

/-- The last count raised by one. -/
def bump (l : List Int) : List Int := l.set (l.length - 1) (l.getD (l.length - 1) 0 + 1)
/-- The runs of the first k numbers. -/
def runsTo (xs : List Int) : Nat → List Int
  | 0 => []
  | k + 1 => if 0 < k ∧ xs[k - 1]? = xs[k]? then bump (runsTo xs k) else runsTo xs k ++ [xs.getD k 0, 1]
def runsS (xs : List Int) : List Int := runsTo xs xs.length

theorem bump_len (l : List Int) : (bump l).length = l.length := by simp [bump]
theorem runsTo_len (xs : List Int) (k : Nat) : (runsTo xs k).length ≤ 2 * k := by
  induction k with
  | zero => simp [runsTo]
  | succ k ih =>
    simp only [runsTo]
    split
    · rw [bump_len]; omega
    · simp; omega
theorem runsTo_pos (xs : List Int) (k : Nat) (hk : 0 < k) : 2 ≤ (runsTo xs k).length := by
  induction k with
  | zero => omega
  | succ k ih =>
    simp only [runsTo]
    split
    · rename_i h
      rw [bump_len]; exact ih h.1
    · simp
theorem runsTo_last (xs : List Int) (k : Nat) : 0 ≤ (runsTo xs k).getD ((runsTo xs k).length - 1) 0 ∧ (runsTo xs k).getD ((runsTo xs k).length - 1) 0 ≤ k := by
  induction k with
  | zero => simp [runsTo]
  | succ k ih =>
    simp only [runsTo]
    split
    · rename_i h
      have hp := runsTo_pos xs k h.1
      rw [bump_len]
      unfold bump
      rw [List.getD_eq_getElem?_getD, List.getElem?_set_self (by omega)]
      simp only [Option.getD_some]
      omega
    · rw [List.length_append]
      simp only [List.length_cons, List.length_nil, Nat.zero_add]
      rw [List.getD_eq_getElem?_getD, List.getElem?_append_right (by omega)]
      rw [show (runsTo xs k).length + (1 + 1) - 1 - (runsTo xs k).length = 1 by omega]
      simp only [List.getElem?_cons_succ, List.getElem?_cons_zero, Option.getD_some]
      omega

/-- The differences: of the numbers from index i + 1 on. -/
def diffFrom (xs : List Int) (i : Nat) : List Int := (List.range xs.length).map fun j => if i < j then xs.getD j 0 - xs.getD (j - 1) 0 else xs.getD j 0
def diffS (xs : List Int) : List Int := diffFrom xs 0
theorem diffFrom_len (xs : List Int) (i : Nat) : (diffFrom xs i).length = xs.length := by simp [diffFrom]
theorem diffS_len (xs : List Int) : (diffS xs).length = xs.length := diffFrom_len xs 0
theorem runsS_len (xs : List Int) : (runsS xs).length ≤ 2 * xs.length := runsTo_len xs xs.length
theorem diffFrom_all (xs : List Int) (i : Nat) (h : xs.length ≤ i + 1) : diffFrom xs i = xs := by
  apply List.ext_getElem?
  intro j
  unfold diffFrom
  by_cases hj : j < xs.length
  · rw [List.getElem?_map, List.getElem?_range hj]
    simp only [Option.map_some]
    rw [if_neg (by omega), List.getD_eq_getElem?_getD, List.getElem?_eq_getElem hj]
    rfl
  · rw [List.getElem?_eq_none (by simp; omega), List.getElem?_eq_none (by omega)]
theorem diffFrom_at (xs : List Int) (i j : Nat) (hj : j < xs.length) : (diffFrom xs i)[j]? = some (if i < j then xs.getD j 0 - xs.getD (j - 1) 0 else xs.getD j 0) := by
  unfold diffFrom
  rw [List.getElem?_map, List.getElem?_range hj]
  rfl
theorem diffFrom_set (xs : List Int) (i : Nat) (_hi : i + 1 < xs.length) : (diffFrom xs (i + 1)).set (i + 1) (xs.getD (i + 1) 0 - xs.getD i 0) = diffFrom xs i := by
  apply List.ext_getElem?
  intro j
  by_cases hj : j < xs.length
  · rw [diffFrom_at xs i j hj]
    by_cases hij : i + 1 = j
    · subst hij
      rw [List.getElem?_set_self (by rw [diffFrom_len]; exact hj), if_pos (by omega)]
      rfl
    · rw [List.getElem?_set_ne hij, diffFrom_at xs (i + 1) j hj]
      by_cases h1 : i < j
      · rw [if_pos h1, if_pos (by omega)]
      · rw [if_neg h1, if_neg (by omega)]
  · rw [List.getElem?_eq_none (by simp [diffFrom_len]; omega), List.getElem?_eq_none (by rw [diffFrom_len]; omega)]

/-- The way and the numbers of a packed series. -/
def packWay (xs : List Int) : Int :=
  let d := (runsS (diffS xs)).length
  let r := (runsS xs).length
  if d < xs.length then (if r < d then 2 else 1) else (if r < xs.length then 2 else 0)
def packNums (xs : List Int) : List Int :=
  let d := (runsS (diffS xs)).length
  let r := (runsS xs).length
  if d < xs.length then (if r < d then runsS xs else runsS (diffS xs)) else (if r < xs.length then runsS xs else xs)

theorem pack_of {xs : List Int} {n m4 m5 : Nat} (hl : xs.length = n) (h4 : (runsS (diffS xs)).length = m4) (h5 : (runsS xs).length = m5) :
    packWay xs = (if m4 < n then (if m5 < m4 then 2 else 1) else (if m5 < n then 2 else 0)) ∧
    packNums xs = (if m4 < n then (if m5 < m4 then runsS xs else runsS (diffS xs)) else (if m5 < n then runsS xs else xs)) := by
  unfold packWay packNums
  rw [hl, h4, h5]
  exact ⟨rfl, rfl⟩

end Go.Sky
