/- Plain functions of chapter 9 (plans). No program. -/
import Derived.Test.YtjpkcmlepjbamaaSpecB
namespace Go.Sky

def sameP (p q : Int × Int) : Bool := p.1 == q.1 && p.2 == q.2
def netE0 (st : Int) (np : Nat) : Int := firstE [errU (inR st 1 8) 2, errU (decide (((np : Nat) : Int) ≤ 28)) 8]
def pairErr (st : Int) (pre : List (Int × Int)) (p : Int × Int) : Int :=
  firstE [errU (inR p.1 0 (st - 1) && inR p.2 0 (st - 1)) 6, errU (decide (p.1 < p.2)) 9, errU (!pre.any (sameP p)) 23]
def netFrom (st : Int) (pre : List (Int × Int)) : List (Int × Int) → Int → Int × Int
  | [], _ => (0, 0)
  | p :: l, i => if pairErr st pre p = 0 then netFrom st (pre ++ [p]) l (i + 1) else (i, pairErr st pre p)
def netS (st : Int) (ps : List (Int × Int)) : Int × Int := if netE0 st ps.length = 0 then netFrom st [] ps 0 else (0, netE0 st ps.length)

theorem netFrom_step {st : Int} {ps : List (Int × Int)} {k : Nat} {p : Int × Int} (h : ps[k]? = some p) :
    netFrom st (ps.take k) (ps.drop k) k = if pairErr st (ps.take k) p = 0 then netFrom st (ps.take (k + 1)) (ps.drop (k + 1)) ((k + 1 : Nat) : Int) else ((k : Int), pairErr st (ps.take k) p) := by
  obtain ⟨hk, rfl⟩ := List.getElem?_eq_some_iff.1 h
  rw [List.drop_eq_getElem_cons hk, netFrom, List.take_succ_eq_append_getElem hk]
  rfl
theorem netE0_zero {st : Int} {n : Nat} (h : netE0 st n = 0) : 1 ≤ st ∧ st ≤ 8 ∧ n ≤ 28 := by
  unfold netE0 at h
  rw [firstE_two] at h
  by_cases h1 : errU (inR st 1 8) 2 = 0
  · rw [if_pos h1, errU_zero (by decide)] at h
    rw [errU_zero (by decide)] at h1
    simp [inR] at h1 h
    omega
  · rw [if_neg h1] at h; exact absurd h h1

theorem pairErr_zero {st : Int} {pre : List (Int × Int)} {p : Int × Int} (h : pairErr st pre p = 0) : 0 ≤ p.1 ∧ p.1 < p.2 ∧ p.2 < st := by
  unfold pairErr at h
  rw [firstE_three, firstE_two] at h
  by_cases h1 : errU (inR p.1 0 (st - 1) && inR p.2 0 (st - 1)) 6 = 0
  · rw [if_pos h1] at h
    by_cases h2 : errU (decide (p.1 < p.2)) 9 = 0
    · rw [errU_zero (by decide)] at h1 h2
      simp [inR] at h1 h2
      omega
    · rw [if_neg h2] at h; exact absurd h h2
  · rw [if_neg h1, if_neg h1] at h; exact absurd h h1
theorem netFrom_zero {st : Int} : ∀ (l pre : List (Int × Int)) (i : Int), (netFrom st pre l i).2 = 0 → ∀ p ∈ l, 0 ≤ p.1 ∧ p.1 < p.2 ∧ p.2 < st := by
  intro l
  induction l with
  | nil => intro pre i _ p hp; cases hp
  | cons q l ih =>
    intro pre i h p hp
    rw [netFrom] at h
    by_cases hq : pairErr st pre q = 0
    · rw [if_pos hq] at h
      rcases List.mem_cons.1 hp with rfl | hp
      · exact pairErr_zero hq
      · exact ih _ _ h p hp
    · rw [if_neg hq] at h; exact absurd h hq
theorem netS_zero {st : Int} {ps : List (Int × Int)} (h : (netS st ps).2 = 0) : 1 ≤ st ∧ st ≤ 8 ∧ ps.length ≤ 28 ∧ ∀ p ∈ ps, 0 ≤ p.1 ∧ p.1 < p.2 ∧ p.2 < st := by
  unfold netS at h
  by_cases h0 : netE0 st ps.length = 0
  · rw [if_pos h0] at h
    obtain ⟨a, b, c⟩ := netE0_zero h0
    exact ⟨a, b, c, netFrom_zero _ _ _ h⟩
  · rw [if_neg h0] at h; exact absurd h h0

/-- The masks of a net: for each station those that it disturbs. -/
def orAt (ms : List Nat) (a b : Nat) : List Nat := ms.set a (ms.getD a 0 ||| 2 ^ b)
def maskStep (ms : List Nat) (p : Int × Int) : List Nat := orAt (orAt ms p.1.toNat p.2.toNat) p.2.toNat p.1.toNat
def maskS (s : Nat) (ps : List (Int × Int)) : List Nat := ps.foldl maskStep (List.replicate s 0)
theorem orAt_len (ms : List Nat) (a b : Nat) : (orAt ms a b).length = ms.length := by simp [orAt]
theorem orAt_lt {ms : List Nat} {a b : Nat} (hm : ∀ m ∈ ms, m < 256) (hb : b < 8) : ∀ m ∈ orAt ms a b, m < 256 := by
  intro m h
  unfold orAt at h
  rcases List.mem_or_eq_of_mem_set h with h | rfl
  · exact hm m h
  · have h1 : ms.getD a 0 < 2 ^ 8 := by
      rw [List.getD_eq_getElem?_getD]
      cases hq : ms[a]? with
      | none => simp
      | some x => exact hm x (List.mem_of_getElem? hq)
    have h2 : (2 : Nat) ^ b < 2 ^ 8 := Nat.pow_lt_pow_right (by omega) hb
    exact Nat.or_lt_two_pow h1 h2

/-- Whether the first j stations leave the slot c free for the next one. -/
def freeTo (ms : List Nat) (slots : List Int) (c : Int) : Nat → Bool
  | 0 => true
  | j + 1 => freeTo ms slots c j && !(slots.getD j 0 == c && (ms.getD j 0).testBit slots.length)
def planF (ms : List Nat) (cnt : Nat) : Nat → List Int → Option (List Int)
  | 0, slots => some slots
  | f + 1, slots => (List.range cnt).findSome? fun (c : Nat) => if freeTo ms slots (c : Int) slots.length then planF ms cnt f (slots ++ [(c : Int)]) else none
def candS (ms : List Nat) (cnt f : Nat) (slots : List Int) (c : Nat) : Option (List Int) := if freeTo ms slots (c : Int) slots.length then planF ms cnt f (slots ++ [(c : Int)]) else none
theorem planF_succ (ms : List Nat) (cnt f : Nat) (slots : List Int) : planF ms cnt (f + 1) slots = (List.range cnt).findSome? (candS ms cnt f slots) := rfl
theorem range_findSome_none {α : Type} {g : Nat → Option α} {n : Nat} (h : ∀ c, c < n → g c = none) : (List.range n).findSome? g = none := by
  rw [List.findSome?_eq_none_iff]
  intro x hx
  exact h x (List.mem_range.1 hx)
theorem range_findSome_some {α : Type} {g : Nat → Option α} {n k : Nat} {r : α} (hk : k < n) (hno : ∀ c, c < k → g c = none) (hr : g k = some r) : (List.range n).findSome? g = some r := by
  rw [List.findSome?_eq_some_iff]
  refine ⟨List.range k, k, (List.range (n - k - 1)).map (· + (k + 1)), ?_, hr, fun x hx => hno x (List.mem_range.1 hx)⟩
  have h1 : n = k + (1 + (n - k - 1)) := by omega
  conv => lhs; rw [h1]
  rw [List.range_add, List.range_add]
  simp [Function.comp_def]
  intro a _
  omega
theorem planF_len {ms : List Nat} {cnt : Nat} : ∀ (f : Nat) (slots r : List Int), planF ms cnt f slots = some r → r.length = slots.length + f := by
  intro f
  induction f with
  | zero => intro slots r h; injection h with h; rw [← h]; rfl
  | succ f ih =>
    intro slots r h
    rw [planF_succ] at h
    obtain ⟨_, c, _, _, hc, _⟩ := List.findSome?_eq_some_iff.1 h
    unfold candS at hc
    split at hc
    · have := ih _ _ hc
      simp at this; omega
    · cases hc
theorem freeTo_of (ms : List Nat) (slots : List Int) (c : Int) (h : ∀ j, slots.getD j 0 ≠ c ∨ slots.length ≤ j) : ∀ j, j ≤ slots.length → freeTo ms slots c j = true := by
  intro j
  induction j with
  | zero => intro _; rfl
  | succ j ih =>
    intro hj
    rw [freeTo, ih (by omega)]
    rcases h j with h1 | h1
    · have h2 : (slots.getD j 0 == c) = false := by simpa using h1
      rw [h2]; rfl
    · omega
theorem planF_isSome (ms : List Nat) (s : Nat) : ∀ (f : Nat) (L : Nat), L + f = s → (planF ms s f ((List.range L).map (fun (i : Nat) => (i : Int)))).isSome = true := by
  intro f
  induction f with
  | zero => intro L _; rfl
  | succ f ih =>
    intro L hL
    rw [planF_succ]
    rw [Option.isSome_iff_ne_none]
    intro h
    rw [List.findSome?_eq_none_iff] at h
    have h1 := h L (List.mem_range.2 (by omega))
    unfold candS at h1
    rw [freeTo_of] at h1
    · rw [if_pos rfl] at h1
      have h2 := ih (L + 1) (by omega)
      rw [List.range_succ, List.map_append, List.map_singleton, h1] at h2
      cases h2
    · intro j
      by_cases hj : j < L
      · left
        rw [List.getD_eq_getElem?_getD, List.getElem?_map, List.getElem?_range hj]
        simp; omega
      · right; simp; omega
    · exact Nat.le_refl _

theorem maskFold_lt : ∀ (ps : List (Int × Int)) (ms : List Nat), (∀ p ∈ ps, p.1.toNat < 8 ∧ p.2.toNat < 8) → (∀ m ∈ ms, m < 256) → ∀ m ∈ ps.foldl maskStep ms, m < 256 := by
  intro ps
  induction ps with
  | nil => intro ms _ hm; exact hm
  | cons p ps ih =>
    intro ms hp hm
    rw [List.foldl_cons]
    have h1 := hp p (List.mem_cons_self ..)
    refine ih _ (fun q hq => hp q (List.mem_cons_of_mem _ hq)) ?_
    exact orAt_lt (orAt_lt hm h1.2) h1.1
theorem maskS_lt {s : Nat} {ps : List (Int × Int)} (hp : ∀ p ∈ ps, p.1.toNat < 8 ∧ p.2.toNat < 8) : ∀ m ∈ maskS s ps, m < 256 :=
  maskFold_lt ps _ hp (fun m hm => by rw [List.eq_of_mem_replicate hm]; omega)

end Go.Sky
