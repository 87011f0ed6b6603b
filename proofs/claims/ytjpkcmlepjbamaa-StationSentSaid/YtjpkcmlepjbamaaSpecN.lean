/- Plain functions of chapter 9 (queues): errors, the order. No program. -/
import Derived.Test.YtjpkcmlepjbamaaSpecM
namespace Go.Sky

def nameI (x : Item) : Bool := nameS x.n.data.toList
def rangeI (x : Item) : Bool := inR x.p 0 9 && inR x.z 1 10000 && tick x.t
def sameN (x y : Item) : Bool := y.n.toList == x.n.toList
def itemE (pre : List Item) (x : Item) : Int := firstE [errU (nameI x) 4, errU (!pre.any (sameN x)) 5, errU (rangeI x) 2]
def queueFrom (pre : List Item) : List Item → Int → Int × Int
  | [], _ => (0, 0)
  | x :: l, i => if itemE pre x = 0 then queueFrom (pre ++ [x]) l (i + 1) else (i, itemE pre x)
def queueS (q : List Item) : Int × Int := if 20 < q.length then (0, 8) else queueFrom [] q 0
theorem queueFrom_step {q : List Item} {k : Nat} {x : Item} (h : q[k]? = some x) :
    queueFrom (q.take k) (q.drop k) k = if itemE (q.take k) x = 0 then queueFrom (q.take (k + 1)) (q.drop (k + 1)) ((k + 1 : Nat) : Int) else ((k : Int), itemE (q.take k) x) := by
  obtain ⟨hk, rfl⟩ := List.getElem?_eq_some_iff.1 h
  rw [List.drop_eq_getElem_cons hk, queueFrom, List.take_succ_eq_append_getElem hk]
  rfl
theorem itemE_zero {pre : List Item} {x : Item} (h : itemE pre x = 0) : nameI x = true ∧ pre.any (sameN x) = false ∧ rangeI x = true := by
  unfold itemE at h
  rw [firstE_three, firstE_two] at h
  cases h1 : nameI x
  · rw [h1] at h; simp [errU] at h
  · cases h2 : pre.any (sameN x)
    · cases h3 : rangeI x
      · rw [h1, h2, h3] at h; simp [errU] at h
      · exact ⟨rfl, rfl, rfl⟩
    · rw [h1, h2] at h; simp [errU] at h
theorem itemE_name {pre : List Item} {x : Item} (h : nameI x = false) : itemE pre x = 4 := by unfold itemE; rw [h]; rfl
theorem itemE_same {pre : List Item} {x : Item} (h : nameI x = true) (h2 : pre.any (sameN x) = true) : itemE pre x = 5 := by unfold itemE; rw [h, h2]; rfl
theorem itemE_range {pre : List Item} {x : Item} (h : nameI x = true) (h2 : pre.any (sameN x) = false) (h3 : rangeI x = false) : itemE pre x = 2 := by unfold itemE; rw [h, h2, h3]; rfl
theorem itemE_ok {pre : List Item} {x : Item} (h : nameI x = true) (h2 : pre.any (sameN x) = false) (h3 : rangeI x = true) : itemE pre x = 0 := by unfold itemE; rw [h, h2, h3]; rfl
theorem queueS_small {q : List Item} (h : (queueS q).2 = 0) : q.length ≤ 20 := by
  unfold queueS at h
  by_cases h1 : 20 < q.length
  · rw [if_pos h1] at h; simp at h
  · omega

/-! ### The order -/
/-- i goes before k. -/
def befQ (q : List Item) (i k : Nat) : Bool :=
  let a := (q[i]?).getD ⟨.empty, 0, 0, 0⟩
  let b := (q[k]?).getD ⟨.empty, 0, 0, 0⟩
  if a.p ≠ b.p then decide (b.p < a.p) else if a.t ≠ b.t then decide (a.t < b.t) else decide (i < k)
def cmpQ (q : List Item) (i k : Nat) : Int :=
  let a := (q[i]?).getD ⟨.empty, 0, 0, 0⟩
  let b := (q[k]?).getD ⟨.empty, 0, 0, 0⟩
  if cmpI b.p a.p ≠ 0 then cmpI b.p a.p else cmpI a.t b.t
theorem cmpQ_neg {q : List Item} {i k : Nat} (h : k < i) : cmpQ q i k < 0 ↔ befQ q i k = true := by
  unfold cmpQ befQ
  generalize (q[i]?).getD ⟨.empty, 0, 0, 0⟩ = a
  generalize (q[k]?).getD ⟨.empty, 0, 0, 0⟩ = b
  dsimp only
  unfold cmpI
  by_cases h1 : b.p < a.p
  · simp [h1]; omega
  · by_cases h2 : a.p < b.p
    · simp [h1, h2]; omega
    · have e : a.p = b.p := by omega
      simp [e]
      by_cases h3 : a.t < b.t
      · simp [h3]; omega
      · by_cases h4 : b.t < a.t
        · simp [h3, h4]; omega
        · simp [h3, h4]; omega
theorem bef_irr (q : List Item) (i : Nat) : befQ q i i = false := by unfold befQ; simp
theorem bef_asym {q : List Item} {i k : Nat} (h : befQ q i k = true) : befQ q k i = false := by
  unfold befQ at *
  generalize (q[i]?).getD ⟨.empty, 0, 0, 0⟩ = a at *
  generalize (q[k]?).getD ⟨.empty, 0, 0, 0⟩ = b at *
  dsimp only at *
  by_cases h1 : a.p = b.p
  · by_cases h2 : a.t = b.t
    · simp [h1, h2] at h ⊢; omega
    · have h2' : ¬ b.t = a.t := fun h => h2 h.symm
      simp [h1, h2, h2'] at h ⊢; omega
  · have h1' : ¬ b.p = a.p := fun h => h1 h.symm
    simp [h1, h1'] at h ⊢; omega
theorem bef_total {q : List Item} {i k : Nat} (h : befQ q i k = false) (hne : i ≠ k) : befQ q k i = true := by
  unfold befQ at *
  generalize (q[i]?).getD ⟨.empty, 0, 0, 0⟩ = a at *
  generalize (q[k]?).getD ⟨.empty, 0, 0, 0⟩ = b at *
  dsimp only at *
  by_cases h1 : a.p = b.p
  · by_cases h2 : a.t = b.t
    · simp [h1, h2] at h ⊢; omega
    · have h2' : ¬ b.t = a.t := fun h => h2 h.symm
      simp [h1, h2, h2'] at h ⊢; omega
  · have h1' : ¬ b.p = a.p := fun h => h1 h.symm
    simp [h1, h1'] at h ⊢; omega
theorem bef_trans {q : List Item} {i k m : Nat} (h : befQ q i k = true) (h' : befQ q k m = true) : befQ q i m = true := by
  unfold befQ at *
  generalize (q[i]?).getD ⟨.empty, 0, 0, 0⟩ = a at *
  generalize (q[k]?).getD ⟨.empty, 0, 0, 0⟩ = b at *
  generalize (q[m]?).getD ⟨.empty, 0, 0, 0⟩ = c at *
  dsimp only at *
  split at h <;> split at h' <;> (try split at h) <;> (try split at h') <;> simp only [decide_eq_true_eq] at h h' <;> (split <;> (try split) <;> simp only [decide_eq_true_eq] <;> omega)

/-! ### Insertion -/
/-- The place from the right: elements that x goes before are passed by. -/
def cutI (p : Nat → Bool) (R : List Nat) : Nat → Nat
  | 0 => 0
  | j + 1 => if p (R.getD j 0) then cutI p R j else j + 1
def insI (p : Nat → Bool) (R : List Nat) (x : Nat) : List Nat := R.take (cutI p R R.length) ++ x :: R.drop (cutI p R R.length)
def sortQ (q : List Item) : Nat → List Nat
  | 0 => []
  | i + 1 => insI (befQ q i) (sortQ q i) i
theorem cutI_le (p : Nat → Bool) (R : List Nat) : ∀ j, cutI p R j ≤ j
  | 0 => Nat.le_refl _
  | j + 1 => by
    rw [cutI]
    split
    · have := cutI_le p R j; omega
    · omega
theorem cutI_yes {p : Nat → Bool} {R : List Nat} {j : Nat} (h : p (R.getD j 0) = true) : cutI p R (j + 1) = cutI p R j := by rw [cutI, if_pos h]
theorem cutI_no {p : Nat → Bool} {R : List Nat} {j : Nat} (h : p (R.getD j 0) = false) : cutI p R (j + 1) = j + 1 := by rw [cutI, if_neg (by rw [h]; decide)]
/-- The row while i is on its way: at place j. -/
def midI (R : List Nat) (x j n : Nat) : List Nat := R.take j ++ x :: (R.drop j ++ (List.range' (x + 1) (n - (x + 1))))
theorem insI_len (p : Nat → Bool) (R : List Nat) (x : Nat) : (insI p R x).length = R.length + 1 := by
  have := cutI_le p R R.length
  unfold insI; simp; omega
theorem sortQ_len (q : List Item) : ∀ i, (sortQ q i).length = i
  | 0 => rfl
  | i + 1 => by rw [sortQ, insI_len, sortQ_len q i]
theorem insI_perm (p : Nat → Bool) (R : List Nat) (x : Nat) : (insI p R x).Perm (x :: R) := by
  unfold insI
  refine List.perm_middle.trans ?_
  rw [List.take_append_drop]
theorem sortQ_mem (q : List Item) : ∀ i x, x ∈ sortQ q i ↔ x < i
  | 0, x => by simp [sortQ]
  | i + 1, x => by
    rw [sortQ, (insI_perm _ _ _).mem_iff, List.mem_cons, sortQ_mem q i]; omega
theorem sortQ_perm (q : List Item) : ∀ i, (sortQ q i).Perm (List.range i)
  | 0 => List.Perm.refl _
  | i + 1 => by
    rw [sortQ, List.range_succ]
    refine (insI_perm _ _ _).trans ?_
    refine List.Perm.trans (List.Perm.cons _ (sortQ_perm q i)) ?_
    exact (List.perm_append_singleton i (List.range i)).symm
theorem cutI_right {p : Nat → Bool} {R : List Nat} : ∀ j, ∀ k, cutI p R j ≤ k → k < j → p (R.getD k 0) = true
  | 0, k, _, hk => by omega
  | j + 1, k, h, hk => by
    by_cases hp : p (R.getD j 0) = true
    · rw [cutI_yes hp] at h
      by_cases hkj : k = j
      · rw [hkj]; exact hp
      · exact cutI_right j k h (by omega)
    · rw [cutI_no (by simpa using hp)] at h; omega
theorem cutI_left {p : Nat → Bool} {R : List Nat} : ∀ j, 0 < cutI p R j → p (R.getD (cutI p R j - 1) 0) = false
  | 0, h => by simp [cutI] at h
  | j + 1, h => by
    by_cases hp : p (R.getD j 0) = true
    · rw [cutI_yes hp] at h ⊢; exact cutI_left j h
    · have hp' : p (R.getD j 0) = false := by simpa using hp
      rw [cutI_no hp']; exact hp'
theorem sortQ_sorted (q : List Item) : ∀ i, (sortQ q i).Pairwise (fun a b => befQ q a b = true)
  | 0 => List.Pairwise.nil
  | i + 1 => by
    have ih := sortQ_sorted q i
    have hl := sortQ_len q i
    have hm := sortQ_mem q i
    rw [sortQ, insI]
    obtain ⟨c, hc⟩ : ∃ c, cutI (befQ q i) (sortQ q i) (sortQ q i).length = c := ⟨_, rfl⟩
    have hcl := cutI_le (befQ q i) (sortQ q i) (sortQ q i).length
    have hR := cutI_right (p := befQ q i) (R := sortQ q i) (sortQ q i).length
    have hL := cutI_left (p := befQ q i) (R := sortQ q i) (sortQ q i).length
    rw [hc] at hcl hR hL ⊢
    generalize sortQ q i = R at *
    have ihi := List.pairwise_iff_getElem.1 ih
    have left : ∀ k (hk : k < R.length), k < c → befQ q R[k] i = true := by
      intro k hk hkc
      have h1 := hL (by omega)
      rw [List.getD_eq_getElem?_getD, List.getElem?_eq_getElem (by omega), Option.getD_some] at h1
      have h2 : befQ q (R[c - 1]'(by omega)) i = true := bef_total h1 (by have := (hm (R[c - 1]'(by omega))).1 (List.getElem_mem _); omega)
      by_cases hkc1 : k = c - 1
      · subst hkc1; exact h2
      · exact bef_trans (ihi k (c - 1) hk (by omega) (by omega)) h2
    have right : ∀ k (hk : k < R.length), c ≤ k → befQ q i R[k] = true := by
      intro k hk hkc
      have h1 := hR k hkc hk
      rwa [List.getD_eq_getElem?_getD, List.getElem?_eq_getElem hk, Option.getD_some] at h1
    rw [List.pairwise_append]
    refine ⟨ih.sublist (List.take_sublist _ _), ?_, ?_⟩
    · rw [List.pairwise_cons]
      refine ⟨?_, ih.sublist (List.drop_sublist _ _)⟩
      intro y hy
      obtain ⟨k, hk, rfl⟩ := List.getElem_of_mem hy
      rw [List.length_drop] at hk
      rw [List.getElem_drop]
      exact right _ (by omega) (by omega)
    · intro x hx y hy
      obtain ⟨k, hk, rfl⟩ := List.getElem_of_mem hx
      rw [List.length_take] at hk
      rw [List.getElem_take]
      have hxi := left k (by omega) (by omega)
      rcases List.mem_cons.1 hy with rfl | hy
      · exact hxi
      · obtain ⟨k', hk', rfl⟩ := List.getElem_of_mem hy
        rw [List.length_drop] at hk'
        rw [List.getElem_drop]
        exact bef_trans hxi (right _ (by omega) (by omega))
/-- How many of the first m go before i. -/
def rankTo (q : List Item) (i m : Nat) : Nat := ((List.range m).filter fun k => befQ q k i).length
theorem rank_step (q : List Item) (i m : Nat) : rankTo q i (m + 1) = rankTo q i m + (if befQ q m i then 1 else 0) := by
  unfold rankTo
  rw [List.range_succ, List.filter_append, List.length_append]
  by_cases h : befQ q m i = true
  · simp [h]
  · simp [h]
theorem pair_rank {q : List Item} : ∀ (L : List Nat), L.Pairwise (fun a b => befQ q a b = true) → ∀ k (hk : k < L.length), (L.filter fun y => befQ q y L[k]).length = k
  | [], _, k, hk => by simp at hk
  | x :: L, h, k, hk => by
    rw [List.pairwise_cons] at h
    cases k with
    | zero =>
      simp only [List.getElem_cons_zero]
      rw [List.filter_cons, bef_irr]
      simp only [Bool.false_eq_true, if_false]
      rw [List.length_eq_zero_iff, List.filter_eq_nil_iff]
      intro y hy
      rw [bef_asym (h.1 y hy)]
      decide
    | succ k =>
      simp only [List.getElem_cons_succ]
      have hk' : k < L.length := by simpa using hk
      rw [List.filter_cons, h.1 _ (List.getElem_mem _)]
      simp only [if_true, List.length_cons]
      rw [pair_rank L h.2 k hk']
theorem sort_rank (q : List Item) (n i : Nat) (hi : i < n) : rankTo q i n < n ∧ (sortQ q n)[rankTo q i n]? = some i := by
  have hm := (sortQ_mem q n i).2 hi
  obtain ⟨k, hk, he⟩ := List.getElem_of_mem hm
  have h1 := pair_rank (sortQ q n) (sortQ_sorted q n) k hk
  rw [he] at h1
  have h2 : rankTo q i n = k := by
    rw [← h1]
    exact ((sortQ_perm q n).symm.filter _).length_eq
  rw [h2]
  have hk' := hk
  rw [sortQ_len] at hk'
  exact ⟨hk', by rw [List.getElem?_eq_getElem hk, he]⟩
end Go.Sky
