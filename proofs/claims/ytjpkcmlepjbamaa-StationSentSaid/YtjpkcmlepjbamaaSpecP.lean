/- Plain functions of chapter 9: when items are sent. No program. -/
import Derived.Test.YtjpkcmlepjbamaaSpecO
namespace Go.Sky

def linkB (b u : Int) : Bool := tick b && inR u 1 10000
def sentE (q : List Item) (b u : Int) : Int := firstE [(queueS q).2, errU (linkB b u) 2]
def zAt (q : List Item) (i : Nat) : Int := match q[i]? with | some x => x.z | none => 0
def sumTo (q : List Item) (O : List Nat) : Nat → Int
  | 0 => 0
  | j + 1 => sumTo q O j + zAt q (O.getD j 0)
def sentTo (q : List Item) (O : List Nat) (b u : Int) (n : Nat) : Nat → List Int
  | 0 => List.replicate n 0
  | j + 1 => (sentTo q O b u n j).set (O.getD j 0) (b + upS (sumTo q O (j + 1)) u)
theorem queueFrom_zero : ∀ (l pre : List Item) (i : Int), (queueFrom pre l i).2 = 0 → ∀ x ∈ l, rangeI x = true := by
  intro l
  induction l with
  | nil => intro pre i _ p hp; cases hp
  | cons y l ih =>
    intro pre i h x hx
    rw [queueFrom] at h
    by_cases hq : itemE pre y = 0
    · rw [if_pos hq] at h
      rcases List.mem_cons.1 hx with rfl | hx
      · exact (itemE_zero hq).2.2
      · exact ih _ _ h x hx
    · rw [if_neg hq] at h; exact absurd h hq
theorem queueS_range {q : List Item} (h : (queueS q).2 = 0) : ∀ x ∈ q, 1 ≤ x.z ∧ x.z ≤ 10000 := by
  have h20 := queueS_small h
  intro x hx
  unfold queueS at h
  rw [if_neg (by omega)] at h
  have := queueFrom_zero _ _ _ h x hx
  unfold rangeI at this
  simp [inR] at this
  omega
theorem zAt_of {q : List Item} {i : Nat} {x : Item} (h : q[i]? = some x) : zAt q i = x.z := by unfold zAt; rw [h]
theorem zAt_in {q : List Item} (h : (queueS q).2 = 0) (i : Nat) : 0 ≤ zAt q i ∧ zAt q i ≤ 10000 := by
  unfold zAt
  cases hx : q[i]? with
  | none => simp
  | some x => have := queueS_range h x (List.mem_of_getElem? hx); simp; omega
theorem sumTo_in {q : List Item} (h : (queueS q).2 = 0) (O : List Nat) : ∀ j : Nat, 0 ≤ sumTo q O j ∧ sumTo q O j ≤ 10000 * j
  | 0 => by simp [sumTo]
  | j + 1 => by
    have h1 := sumTo_in h O j
    have h2 := zAt_in h (O.getD j 0)
    rw [sumTo]
    omega
theorem sent_len (q : List Item) (O : List Nat) (b u : Int) (n : Nat) : ∀ j, (sentTo q O b u n j).length = n
  | 0 => by simp [sentTo]
  | j + 1 => by rw [sentTo, List.length_set, sent_len q O b u n j]
theorem sent_at {q : List Item} {O : List Nat} {b u : Int} {n : Nat} (hl : O.length = n) (hm : ∀ x ∈ O, x < n) (hnd : O.Nodup) : ∀ j, j ≤ n → ∀ i, i < j → (sentTo q O b u n j)[O.getD i 0]? = some (b + upS (sumTo q O (i + 1)) u)
  | 0, _, i, hi => by omega
  | j + 1, hj, i, hi => by
    rw [sentTo]
    have hjl : j < O.length := by omega
    have hil : i < O.length := by omega
    have ej : O.getD j 0 = O[j] := by rw [List.getD_eq_getElem?_getD, List.getElem?_eq_getElem hjl]; rfl
    have ei : O.getD i 0 = O[i] := by rw [List.getD_eq_getElem?_getD, List.getElem?_eq_getElem hil]; rfl
    by_cases he : i = j
    · subst he
      rw [List.getElem?_set_self (by rw [sent_len, ei]; exact hm _ (List.getElem_mem _))]
    · have hne : O.getD j 0 ≠ O.getD i 0 := by
        rw [ei, ej]
        intro h
        exact he ((List.getElem_inj hnd).1 h.symm)
      rw [List.getElem?_set_ne hne]
      exact sent_at hl hm hnd j (by omega) i (by omega)
theorem sortQ_nodup (q : List Item) (n : Nat) : (sortQ q n).Nodup := (sortQ_perm q n).nodup_iff.2 List.nodup_range
theorem up_law {s u : Int} (hu : 1 ≤ u) : s ≤ upS s u * u ∧ (upS s u - 1) * u < s ∧ upS s u * u ≤ s + u := by
  unfold upS
  have h1 := Int.mul_ediv_add_emod (s + u - 1) u
  have h2 := Int.emod_nonneg (s + u - 1) (show u ≠ 0 by omega)
  have h3 := Int.emod_lt_of_pos (s + u - 1) (show 0 < u by omega)
  rw [Int.sub_mul, Int.mul_comm _ u]
  omega
theorem up_in {s u : Int} (hs : 0 ≤ s) (hu : 1 ≤ u) : 0 ≤ upS s u ∧ upS s u ≤ s := by
  unfold upS
  refine ⟨Int.ediv_nonneg (by omega) (by omega), ?_⟩
  rcases Int.lt_or_le 0 s with h | h
  · have h2 : s + u - 1 ≤ s * u := by
      have := Int.mul_le_mul_of_nonneg_left (show (1 : Int) ≤ u from hu) (show (0 : Int) ≤ s - 1 by omega)
      have e : (s - 1) * u = s * u - u := by rw [Int.sub_mul, Int.one_mul]
      omega
    exact Int.ediv_le_of_le_mul (by omega) h2
  · have : s = 0 := by omega
    subst this
    rw [Int.ediv_eq_zero_of_lt (by omega) (by omega)]
    exact Int.le_refl _
end Go.Sky
