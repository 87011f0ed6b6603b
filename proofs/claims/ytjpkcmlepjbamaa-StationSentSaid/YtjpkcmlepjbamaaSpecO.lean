/- Plain: the row under insertion. No program. -/
import Derived.Test.YtjpkcmlepjbamaaSpecN
namespace Go.Sky

def encN (n : Nat) : List Value := [.int .i64 (n : Int)]
def rowI (q : List Item) (i n : Nat) : List Nat := sortQ q i ++ List.range' i (n - i)
theorem rowI_len (q : List Item) {i n : Nat} (h : i ≤ n) : (rowI q i n).length = n := by unfold rowI; simp [sortQ_len]; omega
theorem rowI_full (q : List Item) (n : Nat) : rowI q n n = sortQ q n := by unfold rowI; simp
theorem sortQ_one (q : List Item) : sortQ q 1 = [0] := rfl
theorem rowI_start (q : List Item) {n : Nat} (h : 1 ≤ n) : rowI q 1 n = List.range n := by
  unfold rowI
  rw [sortQ_one, List.range_eq_range']
  obtain ⟨m, rfl⟩ := Nat.exists_eq_add_of_le h
  rw [show 1 + m = m + 1 by omega, List.range'_succ]
  simp
theorem mid_start (q : List Item) {i n : Nat} (h : i < n) : rowI q i n = midI (sortQ q i) i i n := by
  unfold rowI midI
  have hl := sortQ_len q i
  rw [List.take_of_length_le (by omega), List.drop_of_length_le (by omega), List.nil_append]
  obtain ⟨m, rfl⟩ := Nat.exists_eq_add_of_lt h
  rw [show i + m + 1 - i = m + 1 by omega, List.range'_succ, show i + m + 1 - (i + 1) = m by omega]
theorem mid_end (q : List Item) {i j n : Nat} (h : cutI (befQ q i) (sortQ q i) i = j) : midI (sortQ q i) i j n = rowI q (i + 1) n := by
  unfold rowI midI
  rw [sortQ, insI, sortQ_len, h]
  simp
theorem mid_len {R : List Nat} {x j n : Nat} (hR : R.length = x) (hj : j ≤ x) (hx : x < n) : (midI R x j n).length = n := by unfold midI; simp; omega
theorem mid_at {R : List Nat} {x j n : Nat} (hR : R.length = x) (hj : j ≤ x) : (midI R x j n)[j]? = some x := by
  unfold midI
  rw [List.getElem?_append_right (by simp; omega)]
  rw [List.length_take, show j - min j R.length = 0 by omega]
  rfl
theorem mid_left {R : List Nat} {x j n : Nat} (hR : R.length = x) (hj : j + 1 ≤ x) : (midI R x (j + 1) n)[j]? = some (R.getD j 0) := by
  unfold midI
  rw [List.getElem?_append_left (by simp; omega), List.getElem?_take_of_lt (by omega), List.getElem?_eq_getElem (by omega), List.getD_eq_getElem?_getD, List.getElem?_eq_getElem (by omega)]
  rfl
theorem mid_step {R : List Nat} {x j n : Nat} (hR : R.length = x) (hj : j + 1 ≤ x) : ((midI R x (j + 1) n).set (j + 1) (R.getD j 0)).set j x = midI R x j n := by
  unfold midI
  have hjl : j < R.length := by omega
  rw [List.take_succ_eq_append_getElem hjl, List.drop_eq_getElem_cons hjl, List.getD_eq_getElem?_getD, List.getElem?_eq_getElem hjl]
  have hl : (R.take j).length = j := by rw [List.length_take]; omega
  rw [List.append_assoc]
  rw [List.set_append_right _ _ (by omega), hl, show j + 1 - j = 1 by omega]
  rw [List.set_append_right _ _ (by omega), hl, Nat.sub_self]
  rfl
theorem mid_step' {R : List Nat} {x j n : Nat} (hR : R.length = x) (hj : j + 1 ≤ x) : ((midI R x (j + 1) n).set j x).set (j + 1) (R.getD j 0) = midI R x j n := by
  rw [List.set_comm _ _ (by omega)]
  exact mid_step hR hj
theorem getD_lt {q : List Item} {i j : Nat} (h : j < i) : (sortQ q i).getD j 0 < i := by
  have hl := sortQ_len q i
  rw [List.getD_eq_getElem?_getD, List.getElem?_eq_getElem (by omega)]
  exact (sortQ_mem q i _).1 (List.getElem_mem _)

/-! ### The reference's order -/
theorem rank_at (q : List Item) (n r : Nat) (h : r < n) : ∃ i, i < n ∧ (sortQ q n)[r]? = some i ∧ rankTo q i n = r := by
  have hl := sortQ_len q n
  refine ⟨(sortQ q n)[r]'(by omega), (sortQ_mem q n _).1 (List.getElem_mem _), List.getElem?_eq_getElem _, ?_⟩
  have h1 := pair_rank (sortQ q n) (sortQ_sorted q n) r (by omega)
  refine Eq.trans ?_ h1
  exact ((sortQ_perm q n).symm.filter _).length_eq
theorem rank_inj {q : List Item} {n i j : Nat} (hi : i < n) (hj : j < n) (h : rankTo q i n = rankTo q j n) : i = j := by
  have h1 := (sort_rank q n i hi).2
  have h2 := (sort_rank q n j hj).2
  rw [h, h2] at h1
  injection h1 with h1
  exact h1.symm
def Placed (q : List Item) (n k : Nat) (xs : List Nat) : Prop := xs.length = n ∧ ∀ i, i < k → xs[rankTo q i n]? = some i
theorem placed_step {q : List Item} {n k : Nat} {xs : List Nat} (h : Placed q n k xs) (hk : k < n) : Placed q n (k + 1) (xs.set (rankTo q k n) k) := by
  refine ⟨by rw [List.length_set]; exact h.1, fun i hi => ?_⟩
  have hr := (sort_rank q n k hk).1
  by_cases he : i = k
  · subst he
    rw [List.getElem?_set_self (by rw [h.1]; exact hr)]
  · rw [List.getElem?_set_ne (fun e => he (rank_inj (by omega) hk e.symm))]
    exact h.2 i (by omega)
theorem placed_end {q : List Item} {n : Nat} {xs : List Nat} (h : Placed q n n xs) : xs = sortQ q n := by
  apply List.ext_getElem?
  intro r
  rcases Nat.lt_or_ge r n with hr | hr
  · obtain ⟨i, hi, h1, h2⟩ := rank_at q n r hr
    rw [h1, ← h2]
    exact h.2 i hi
  · rw [List.getElem?_eq_none (by rw [h.1]; exact hr), List.getElem?_eq_none (by rw [sortQ_len]; exact hr)]
theorem rank_zero (q : List Item) (i : Nat) : rankTo q i 0 = 0 := rfl
theorem rank_le (q : List Item) (i m : Nat) : rankTo q i m ≤ m := by
  unfold rankTo
  have := List.length_filter_le (fun k => befQ q k i) (List.range m)
  simpa using this
end Go.Sky
