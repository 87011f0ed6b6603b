/- Plain functions of chapter 9 (clocks): what the code computes. No program.
   Plain functions of chapter 9 (packing). No program.
   Plain functions of chapter 9 (plans). No program.
   Plain functions of chapter 9 (plans): groups, the order of lists, plans that are right. No program.
   Plain functions of chapter 9 (checks). No program. -/


namespace Go.Sky

/-- The first error that is not 0. -/
def firstE : List Int → Int
  | [] => 0
  | e :: l => if e = 0 then firstE l else e
/-- No error if the test holds. -/
def errU (c : Bool) (e : Int) : Int := if c then 0 else e
def inR (n lo hi : Int) : Bool := decide (lo ≤ n ∧ n ≤ hi)

structure Exch where
  s : Int
  t : Int
  r : Int

def tick (n : Int) : Bool := inR n 0 1000000000000
def exErr (x : Exch) : Int := firstE [errU (tick x.s && tick x.t && tick x.r) 2, errU (decide (x.s ≤ x.r)) 9]
def timeE (d t : Int) : Int := firstE [errU (inR d 0 1000) 2, errU (tick t) 2]
def upS (n b : Int) : Int := (n + b - 1) / b
def max3 (a b : Int) : Int := max 0 (max a b)
def offBy (x : Exch) (d t : Int) : Int × Int :=
  (x.t - x.r - upS (d * max3 (x.s - t) (t - x.r)) 1000, x.t - x.s + upS (d * max3 (x.s - t) (t - x.r)) 1000)

/-- A fold over the first k elements. -/
def foldTo {α β : Type} (f : β → α → β) (a : β) (xs : List α) (k : Nat) : β := (xs.take k).foldl f a
theorem foldTo_zero {α β : Type} (f : β → α → β) (a : β) (xs : List α) : foldTo f a xs 0 = a := rfl
theorem foldTo_step {α β : Type} (f : β → α → β) (a : β) (xs : List α) (k : Nat) (x : α) (h : xs[k]? = some x) : foldTo f a xs (k + 1) = f (foldTo f a xs k) x := by
  obtain ⟨hk, rfl⟩ := List.getElem?_eq_some_iff.1 h
  unfold foldTo
  rw [List.take_succ_eq_append_getElem hk, List.foldl_append]
  rfl
theorem foldTo_all {α β : Type} (f : β → α → β) (a : β) (xs : List α) (k : Nat) (h : xs.length ≤ k) : foldTo f a xs k = xs.foldl f a := by
  unfold foldTo; rw [List.take_of_length_le h]

/-- The common part of ranges. -/
def rCut (a r : Int × Int) : Int × Int := (max a.1 r.1, min a.2 r.2)
def comS (xs : List (Int × Int)) : Int × Int := xs.foldl rCut (xs.headD (0, 0))

/-- The error of exchanges, checked one by one. -/
def exsErr : List Exch → Int
  | [] => 0
  | x :: l => if exErr x = 0 then exsErr l else exErr x
def offE1 (l : List Exch) : Int := firstE [errU (decide (0 < l.length)) 10, errU (decide (((l.length : Nat) : Int) ≤ 20)) 8, exsErr l]
def offsErr (l : List Exch) (d t : Int) : Int := firstE [offE1 l, timeE d t]
def offAtS (l : List Exch) (d t : Int) : (Int × Int) × Int :=
  if offsErr l d t = 0 then
    if (comS (l.map (offBy · d t))).1 ≤ (comS (l.map (offBy · d t))).2 then (comS (l.map (offBy · d t)), 0) else ((0, 0), 13)
  else ((0, 0), offsErr l d t)

theorem exsErr_append (a b : List Exch) : exsErr (a ++ b) = if exsErr a = 0 then exsErr b else exsErr a := by
  induction a with
  | nil => simp [exsErr]
  | cons x a ih =>
    simp only [List.cons_append, exsErr]
    by_cases h : exErr x = 0 <;> simp [h, ih]
theorem exsErr_take (xs : List Exch) (k : Nat) (x : Exch) (h : xs[k]? = some x) (h0 : exsErr (xs.take k) = 0) : exsErr (xs.take (k + 1)) = exErr x := by
  obtain ⟨hk, rfl⟩ := List.getElem?_eq_some_iff.1 h
  rw [List.take_succ_eq_append_getElem hk, exsErr_append, if_pos h0]
  simp only [exsErr]
  by_cases h : exErr xs[k] = 0 <;> simp [h]
theorem exsErr_stop (xs : List Exch) (k : Nat) (h0 : exsErr (xs.take k) ≠ 0) : exsErr xs = exsErr (xs.take k) := by
  have := exsErr_append (xs.take k) (xs.drop k)
  rw [List.take_append_drop] at this
  rw [this, if_neg h0]
theorem exsErr_zero {xs : List Exch} (h : exsErr xs = 0) : ∀ x ∈ xs, exErr x = 0 := by
  induction xs with
  | nil => intro x hx; cases hx
  | cons y ys ih =>
    simp only [exsErr] at h
    by_cases hy : exErr y = 0
    · rw [if_pos hy] at h
      intro x hx
      rcases List.mem_cons.1 hx with rfl | hx
      · exact hy
      · exact ih h x hx
    · rw [if_neg hy] at h; exact absurd h hy
theorem firstE_cons (e : Int) (l : List Int) : firstE (e :: l) = if e = 0 then firstE l else e := rfl
theorem firstE_two (a b : Int) : firstE [a, b] = if a = 0 then b else a := by
  simp only [firstE]; by_cases h : b = 0 <;> simp [h]
theorem firstE_three (a b c : Int) : firstE [a, b, c] = if firstE [a, b] = 0 then c else firstE [a, b] := by
  simp only [firstE]
  by_cases ha : a = 0 <;> by_cases hb : b = 0 <;> by_cases hc : c = 0 <;> simp_all
theorem errU_zero {c : Bool} {e : Int} (he : e ≠ 0) : errU c e = 0 ↔ c = true := by cases c <;> simp [errU, he]
theorem exErr_zero {x : Exch} (h : exErr x = 0) : 0 ≤ x.s ∧ x.s ≤ x.r ∧ x.r ≤ 1000000000000 ∧ 0 ≤ x.t ∧ x.t ≤ 1000000000000 := by
  unfold exErr at h
  rw [firstE_two] at h
  by_cases h1 : errU (tick x.s && tick x.t && tick x.r) 2 = 0
  · rw [if_pos h1, errU_zero (by decide)] at h
    rw [errU_zero (by decide)] at h1
    simp [tick, inR] at h1 h
    omega
  · rw [if_neg h1] at h; exact absurd h h1
theorem timeE_zero {d t : Int} (h : timeE d t = 0) : 0 ≤ d ∧ d ≤ 1000 ∧ 0 ≤ t ∧ t ≤ 1000000000000 := by
  unfold timeE at h
  rw [firstE_two] at h
  by_cases h1 : errU (inR d 0 1000) 2 = 0
  · rw [if_pos h1, errU_zero (by decide)] at h
    rw [errU_zero (by decide)] at h1
    simp [tick, inR] at h1 h
    omega
  · rw [if_neg h1] at h; exact absurd h h1

theorem offsErr_zero {xs : List Exch} {d t : Int} {n : Nat} (hl : xs.length = n) (h : offsErr xs d t = 0) : exsErr xs = 0 ∧ timeE d t = 0 ∧ n ≤ 20 := by
  unfold offsErr at h
  rw [firstE_two] at h
  by_cases h1 : offE1 xs = 0
  · rw [if_pos h1] at h
    unfold offE1 at h1
    rw [firstE_three, firstE_two] at h1
    by_cases h2 : errU (decide (0 < xs.length)) 10 = 0
    · rw [if_pos h2] at h1
      by_cases h3 : errU (decide (((xs.length : Nat) : Int) ≤ 20)) 8 = 0
      · rw [if_pos h3] at h1
        rw [errU_zero (by decide)] at h3
        exact ⟨h1, h, by simp at h3; omega⟩
      · rw [if_neg h3] at h1; exact absurd h1 h3
    · rw [if_neg h2, if_neg h2] at h1; exact absurd h1 h2
  · rw [if_neg h1] at h; exact absurd h h1

theorem offsErr_pos {xs : List Exch} {d t : Int} {n : Nat} (hl : xs.length = n) (h : offsErr xs d t = 0) : 0 < n := by
  unfold offsErr at h
  rw [firstE_two] at h
  by_cases h1 : offE1 xs = 0
  · unfold offE1 at h1
    rw [firstE_three, firstE_two] at h1
    by_cases h2 : errU (decide (0 < xs.length)) 10 = 0
    · rw [errU_zero (by decide)] at h2
      simpa [hl] using h2
    · rw [if_neg h2, if_neg h2] at h1; exact absurd h1 h2
  · rw [if_neg h1] at h; exact absurd h h1

def offByS (x : Exch) (d t : Int) : (Int × Int) × Int := if firstE [exErr x, timeE d t] = 0 then (offBy x d t, 0) else ((0, 0), firstE [exErr x, timeE d t])
def trueAtS (l : List Exch) (d t : Int) : (Int × Int) × Int := if (offAtS l d t).2 = 0 then ((t + (offAtS l d t).1.1, t + (offAtS l d t).1.2), 0) else ((0, 0), (offAtS l d t).2)

end Go.Sky

namespace Go.Sky

/-- The last count raised by one. -/
def bump (l : List Int) : List Int := l.set (l.length - 1) (l.getD (l.length - 1) 0 + 1)
/-- The runs of the first k numbers. -/
def runsTo (xs : List Int) : Nat → List Int
  | 0 => []
  | k + 1 => if 0 < k ∧ xs[k - 1]? = xs[k]? then bump (runsTo xs k) else runsTo xs k ++ [xs.getD k 0, 1]
def runsS (xs : List Int) : List Int := runsTo xs xs.length

theorem bump_len (l : List Int) : (bump l).length = l.length := by simp [bump]
theorem runsTo_len (xs : List Int) (k : Nat) : (runsTo xs k).length ≤ 2 * k := by
  induction k with
  | zero => simp [runsTo]
  | succ k ih =>
    simp only [runsTo]
    split
    · rw [bump_len]; omega
    · simp; omega
theorem runsTo_pos (xs : List Int) (k : Nat) (hk : 0 < k) : 2 ≤ (runsTo xs k).length := by
  induction k with
  | zero => omega
  | succ k ih =>
    simp only [runsTo]
    split
    · rename_i h
      rw [bump_len]; exact ih h.1
    · simp
theorem runsTo_last (xs : List Int) (k : Nat) : 0 ≤ (runsTo xs k).getD ((runsTo xs k).length - 1) 0 ∧ (runsTo xs k).getD ((runsTo xs k).length - 1) 0 ≤ k := by
  induction k with
  | zero => simp [runsTo]
  | succ k ih =>
    simp only [runsTo]
    split
    · rename_i h
      have hp := runsTo_pos xs k h.1
      rw [bump_len]
      unfold bump
      rw [List.getD_eq_getElem?_getD, List.getElem?_set_self (by omega)]
      simp only [Option.getD_some]
      omega
    · rw [List.length_append]
      simp only [List.length_cons, List.length_nil, Nat.zero_add]
      rw [List.getD_eq_getElem?_getD, List.getElem?_append_right (by omega)]
      rw [show (runsTo xs k).length + (1 + 1) - 1 - (runsTo xs k).length = 1 by omega]
      simp only [List.getElem?_cons_succ, List.getElem?_cons_zero, Option.getD_some]
      omega

/-- The differences: of the numbers from index i + 1 on. -/
def diffFrom (xs : List Int) (i : Nat) : List Int := (List.range xs.length).map fun j => if i < j then xs.getD j 0 - xs.getD (j - 1) 0 else xs.getD j 0
def diffS (xs : List Int) : List Int := diffFrom xs 0
theorem diffFrom_len (xs : List Int) (i : Nat) : (diffFrom xs i).length = xs.length := by simp [diffFrom]
theorem diffS_len (xs : List Int) : (diffS xs).length = xs.length := diffFrom_len xs 0
theorem runsS_len (xs : List Int) : (runsS xs).length ≤ 2 * xs.length := runsTo_len xs xs.length
theorem diffFrom_all (xs : List Int) (i : Nat) (h : xs.length ≤ i + 1) : diffFrom xs i = xs := by
  apply List.ext_getElem?
  intro j
  unfold diffFrom
  by_cases hj : j < xs.length
  · rw [List.getElem?_map, List.getElem?_range hj]
    simp only [Option.map_some]
    rw [if_neg (by omega), List.getD_eq_getElem?_getD, List.getElem?_eq_getElem hj]
    rfl
  · rw [List.getElem?_eq_none (by simp; omega), List.getElem?_eq_none (by omega)]
theorem diffFrom_at (xs : List Int) (i j : Nat) (hj : j < xs.length) : (diffFrom xs i)[j]? = some (if i < j then xs.getD j 0 - xs.getD (j - 1) 0 else xs.getD j 0) := by
  unfold diffFrom
  rw [List.getElem?_map, List.getElem?_range hj]
  rfl
theorem diffFrom_set (xs : List Int) (i : Nat) (_hi : i + 1 < xs.length) : (diffFrom xs (i + 1)).set (i + 1) (xs.getD (i + 1) 0 - xs.getD i 0) = diffFrom xs i := by
  apply List.ext_getElem?
  intro j
  by_cases hj : j < xs.length
  · rw [diffFrom_at xs i j hj]
    by_cases hij : i + 1 = j
    · subst hij
      rw [List.getElem?_set_self (by rw [diffFrom_len]; exact hj), if_pos (by omega)]
      rfl
    · rw [List.getElem?_set_ne hij, diffFrom_at xs (i + 1) j hj]
      by_cases h1 : i < j
      · rw [if_pos h1, if_pos (by omega)]
      · rw [if_neg h1, if_neg (by omega)]
  · rw [List.getElem?_eq_none (by simp [diffFrom_len]; omega), List.getElem?_eq_none (by rw [diffFrom_len]; omega)]

/-- The way and the numbers of a packed series. -/
def packWay (xs : List Int) : Int :=
  let d := (runsS (diffS xs)).length
  let r := (runsS xs).length
  if d < xs.length then (if r < d then 2 else 1) else (if r < xs.length then 2 else 0)
def packNums (xs : List Int) : List Int :=
  let d := (runsS (diffS xs)).length
  let r := (runsS xs).length
  if d < xs.length then (if r < d then runsS xs else runsS (diffS xs)) else (if r < xs.length then runsS xs else xs)

theorem pack_of {xs : List Int} {n m4 m5 : Nat} (hl : xs.length = n) (h4 : (runsS (diffS xs)).length = m4) (h5 : (runsS xs).length = m5) :
    packWay xs = (if m4 < n then (if m5 < m4 then 2 else 1) else (if m5 < n then 2 else 0)) ∧
    packNums xs = (if m4 < n then (if m5 < m4 then runsS xs else runsS (diffS xs)) else (if m5 < n then runsS xs else xs)) := by
  unfold packWay packNums
  rw [hl, h4, h5]
  exact ⟨rfl, rfl⟩

end Go.Sky

namespace Go.Sky

def sameP (p q : Int × Int) : Bool := p.1 == q.1 && p.2 == q.2
def netE0 (st : Int) (np : Nat) : Int := firstE [errU (inR st 1 8) 2, errU (decide (((np : Nat) : Int) ≤ 28)) 8]
def pairErr (st : Int) (pre : List (Int × Int)) (p : Int × Int) : Int :=
  firstE [errU (inR p.1 0 (st - 1) && inR p.2 0 (st - 1)) 6, errU (decide (p.1 < p.2)) 9, errU (!pre.any (sameP p)) 23]
def netFrom (st : Int) (pre : List (Int × Int)) : List (Int × Int) → Int → Int × Int
  | [], _ => (0, 0)
  | p :: l, i => if pairErr st pre p = 0 then netFrom st (pre ++ [p]) l (i + 1) else (i, pairErr st pre p)
def netS (st : Int) (ps : List (Int × Int)) : Int × Int := if netE0 st ps.length = 0 then netFrom st [] ps 0 else (0, netE0 st ps.length)

theorem netFrom_step {st : Int} {ps : List (Int × Int)} {k : Nat} {p : Int × Int} (h : ps[k]? = some p) :
    netFrom st (ps.take k) (ps.drop k) k = if pairErr st (ps.take k) p = 0 then netFrom st (ps.take (k + 1)) (ps.drop (k + 1)) ((k + 1 : Nat) : Int) else ((k : Int), pairErr st (ps.take k) p) := by
  obtain ⟨hk, rfl⟩ := List.getElem?_eq_some_iff.1 h
  rw [List.drop_eq_getElem_cons hk, netFrom, List.take_succ_eq_append_getElem hk]
  rfl
theorem netE0_zero {st : Int} {n : Nat} (h : netE0 st n = 0) : 1 ≤ st ∧ st ≤ 8 ∧ n ≤ 28 := by
  unfold netE0 at h
  rw [firstE_two] at h
  by_cases h1 : errU (inR st 1 8) 2 = 0
  · rw [if_pos h1, errU_zero (by decide)] at h
    rw [errU_zero (by decide)] at h1
    simp [inR] at h1 h
    omega
  · rw [if_neg h1] at h; exact absurd h h1

theorem pairErr_zero {st : Int} {pre : List (Int × Int)} {p : Int × Int} (h : pairErr st pre p = 0) : 0 ≤ p.1 ∧ p.1 < p.2 ∧ p.2 < st := by
  unfold pairErr at h
  rw [firstE_three, firstE_two] at h
  by_cases h1 : errU (inR p.1 0 (st - 1) && inR p.2 0 (st - 1)) 6 = 0
  · rw [if_pos h1] at h
    by_cases h2 : errU (decide (p.1 < p.2)) 9 = 0
    · rw [errU_zero (by decide)] at h1 h2
      simp [inR] at h1 h2
      omega
    · rw [if_neg h2] at h; exact absurd h h2
  · rw [if_neg h1, if_neg h1] at h; exact absurd h h1
theorem netFrom_zero {st : Int} : ∀ (l pre : List (Int × Int)) (i : Int), (netFrom st pre l i).2 = 0 → ∀ p ∈ l, 0 ≤ p.1 ∧ p.1 < p.2 ∧ p.2 < st := by
  intro l
  induction l with
  | nil => intro pre i _ p hp; cases hp
  | cons q l ih =>
    intro pre i h p hp
    rw [netFrom] at h
    by_cases hq : pairErr st pre q = 0
    · rw [if_pos hq] at h
      rcases List.mem_cons.1 hp with rfl | hp
      · exact pairErr_zero hq
      · exact ih _ _ h p hp
    · rw [if_neg hq] at h; exact absurd h hq
theorem netS_zero {st : Int} {ps : List (Int × Int)} (h : (netS st ps).2 = 0) : 1 ≤ st ∧ st ≤ 8 ∧ ps.length ≤ 28 ∧ ∀ p ∈ ps, 0 ≤ p.1 ∧ p.1 < p.2 ∧ p.2 < st := by
  unfold netS at h
  by_cases h0 : netE0 st ps.length = 0
  · rw [if_pos h0] at h
    obtain ⟨a, b, c⟩ := netE0_zero h0
    exact ⟨a, b, c, netFrom_zero _ _ _ h⟩
  · rw [if_neg h0] at h; exact absurd h h0

/-- The masks of a net: for each station those that it disturbs. -/
def orAt (ms : List Nat) (a b : Nat) : List Nat := ms.set a (ms.getD a 0 ||| 2 ^ b)
def maskStep (ms : List Nat) (p : Int × Int) : List Nat := orAt (orAt ms p.1.toNat p.2.toNat) p.2.toNat p.1.toNat
def maskS (s : Nat) (ps : List (Int × Int)) : List Nat := ps.foldl maskStep (List.replicate s 0)
theorem orAt_len (ms : List Nat) (a b : Nat) : (orAt ms a b).length = ms.length := by simp [orAt]
theorem orAt_lt {ms : List Nat} {a b : Nat} (hm : ∀ m ∈ ms, m < 256) (hb : b < 8) : ∀ m ∈ orAt ms a b, m < 256 := by
  intro m h
  unfold orAt at h
  rcases List.mem_or_eq_of_mem_set h with h | rfl
  · exact hm m h
  · have h1 : ms.getD a 0 < 2 ^ 8 := by
      rw [List.getD_eq_getElem?_getD]
      cases hq : ms[a]? with
      | none => simp
      | some x => exact hm x (List.mem_of_getElem? hq)
    have h2 : (2 : Nat) ^ b < 2 ^ 8 := Nat.pow_lt_pow_right (by omega) hb
    exact Nat.or_lt_two_pow h1 h2

/-- Whether the first j stations leave the slot c free for the next one. -/
def freeTo (ms : List Nat) (slots : List Int) (c : Int) : Nat → Bool
  | 0 => true
  | j + 1 => freeTo ms slots c j && !(slots.getD j 0 == c && (ms.getD j 0).testBit slots.length)
def planF (ms : List Nat) (cnt : Nat) : Nat → List Int → Option (List Int)
  | 0, slots => some slots
  | f + 1, slots => (List.range cnt).findSome? fun (c : Nat) => if freeTo ms slots (c : Int) slots.length then planF ms cnt f (slots ++ [(c : Int)]) else none
def candS (ms : List Nat) (cnt f : Nat) (slots : List Int) (c : Nat) : Option (List Int) := if freeTo ms slots (c : Int) slots.length then planF ms cnt f (slots ++ [(c : Int)]) else none
theorem planF_succ (ms : List Nat) (cnt f : Nat) (slots : List Int) : planF ms cnt (f + 1) slots = (List.range cnt).findSome? (candS ms cnt f slots) := rfl
theorem range_findSome_none {α : Type} {g : Nat → Option α} {n : Nat} (h : ∀ c, c < n → g c = none) : (List.range n).findSome? g = none := by
  rw [List.findSome?_eq_none_iff]
  intro x hx
  exact h x (List.mem_range.1 hx)
theorem range_findSome_some {α : Type} {g : Nat → Option α} {n k : Nat} {r : α} (hk : k < n) (hno : ∀ c, c < k → g c = none) (hr : g k = some r) : (List.range n).findSome? g = some r := by
  rw [List.findSome?_eq_some_iff]
  refine ⟨List.range k, k, (List.range (n - k - 1)).map (· + (k + 1)), ?_, hr, fun x hx => hno x (List.mem_range.1 hx)⟩
  have h1 : n = k + (1 + (n - k - 1)) := by omega
  conv => lhs; rw [h1]
  rw [List.range_add, List.range_add]
  simp [Function.comp_def]
  intro a _
  omega
theorem planF_len {ms : List Nat} {cnt : Nat} : ∀ (f : Nat) (slots r : List Int), planF ms cnt f slots = some r → r.length = slots.length + f := by
  intro f
  induction f with
  | zero => intro slots r h; injection h with h; rw [← h]; rfl
  | succ f ih =>
    intro slots r h
    rw [planF_succ] at h
    obtain ⟨_, c, _, _, hc, _⟩ := List.findSome?_eq_some_iff.1 h
    unfold candS at hc
    split at hc
    · have := ih _ _ hc
      simp at this; omega
    · cases hc
theorem freeTo_of (ms : List Nat) (slots : List Int) (c : Int) (h : ∀ j, slots.getD j 0 ≠ c ∨ slots.length ≤ j) : ∀ j, j ≤ slots.length → freeTo ms slots c j = true := by
  intro j
  induction j with
  | zero => intro _; rfl
  | succ j ih =>
    intro hj
    rw [freeTo, ih (by omega)]
    rcases h j with h1 | h1
    · have h2 : (slots.getD j 0 == c) = false := by simpa using h1
      rw [h2]; rfl
    · omega
theorem planF_isSome (ms : List Nat) (s : Nat) : ∀ (f : Nat) (L : Nat), L + f = s → (planF ms s f ((List.range L).map (fun (i : Nat) => (i : Int)))).isSome = true := by
  intro f
  induction f with
  | zero => intro L _; rfl
  | succ f ih =>
    intro L hL
    rw [planF_succ]
    rw [Option.isSome_iff_ne_none]
    intro h
    rw [List.findSome?_eq_none_iff] at h
    have h1 := h L (List.mem_range.2 (by omega))
    unfold candS at h1
    rw [freeTo_of] at h1
    · rw [if_pos rfl] at h1
      have h2 := ih (L + 1) (by omega)
      rw [List.range_succ, List.map_append, List.map_singleton, h1] at h2
      cases h2
    · intro j
      by_cases hj : j < L
      · left
        rw [List.getD_eq_getElem?_getD, List.getElem?_map, List.getElem?_range hj]
        simp; omega
      · right; simp; omega
    · exact Nat.le_refl _

theorem maskFold_lt : ∀ (ps : List (Int × Int)) (ms : List Nat), (∀ p ∈ ps, p.1.toNat < 8 ∧ p.2.toNat < 8) → (∀ m ∈ ms, m < 256) → ∀ m ∈ ps.foldl maskStep ms, m < 256 := by
  intro ps
  induction ps with
  | nil => intro ms _ hm; exact hm
  | cons p ps ih =>
    intro ms hp hm
    rw [List.foldl_cons]
    have h1 := hp p (List.mem_cons_self ..)
    refine ih _ (fun q hq => hp q (List.mem_cons_of_mem _ hq)) ?_
    exact orAt_lt (orAt_lt hm h1.2) h1.1
theorem maskS_lt {s : Nat} {ps : List (Int × Int)} (hp : ∀ p ∈ ps, p.1.toNat < 8 ∧ p.2.toNat < 8) : ∀ m ∈ maskS s ps, m < 256 :=
  maskFold_lt ps _ hp (fun m hm => by rw [List.eq_of_mem_replicate hm]; omega)

end Go.Sky

namespace Go.Sky

/-- The order of two lists: below, alike, above. -/
def cmpI (a b : Int) : Int := if a < b then -1 else if b < a then 1 else 0
def lexC : List Int → List Int → Int
  | [], [] => 0
  | [], _ :: _ => -1
  | _ :: _, [] => 1
  | a :: l, b :: m => if cmpI a b = 0 then lexC l m else cmpI a b
theorem lexC_drop {xs ys : List Int} {k : Nat} {a b : Int} (h1 : xs[k]? = some a) (h2 : ys[k]? = some b) : lexC (xs.drop k) (ys.drop k) = if cmpI a b = 0 then lexC (xs.drop (k + 1)) (ys.drop (k + 1)) else cmpI a b := by
  obtain ⟨hk, rfl⟩ := List.getElem?_eq_some_iff.1 h1
  obtain ⟨hk2, rfl⟩ := List.getElem?_eq_some_iff.1 h2
  rw [List.drop_eq_getElem_cons hk, List.drop_eq_getElem_cons hk2, lexC]
theorem lexC_end {xs ys : List Int} {k : Nat} (h : xs.length ≤ k) : lexC (xs.drop k) (ys.drop k) = if k < ys.length then -1 else 0 := by
  rw [List.drop_of_length_le h]
  by_cases hk : k < ys.length
  · rw [if_pos hk, List.drop_eq_getElem_cons hk]; rfl
  · rw [if_neg hk, List.drop_of_length_le (by omega)]; rfl
theorem lexC_over {xs ys : List Int} {k : Nat} (h : k < xs.length) (h2 : ys.length ≤ k) : lexC (xs.drop k) (ys.drop k) = 1 := by
  rw [List.drop_of_length_le h2, List.drop_eq_getElem_cons h]; rfl

/-! ### Groups -/
def distB (ms : List Nat) (a b : Int) : Bool := (ms.getD a.toNat 0).testBit b.toNat
def memTo (set : Nat) : Nat → List Int
  | 0 => []
  | i + 1 => if set.testBit i then memTo set i ++ [(i : Int)] else memTo set i
def grpTo (ms : List Nat) (set : Nat) : Nat → Option (List Int)
  | 0 => some []
  | i + 1 => match grpTo ms set i with
    | none => none
    | some out => if set.testBit i then (if out.any (fun o => !distB ms o (i : Int)) then none else some (out ++ [(i : Int)])) else some out
def better (l b : List Int) : Bool := decide (b.length < l.length) || (decide (l.length = b.length) && decide (lexC l b < 0))
def grpS (ms : List Nat) (set s : Nat) : List Int := (grpTo ms set s).getD []
def bestTo (ms : List Nat) (s : Nat) : Nat → List Int
  | 0 => []
  | N + 1 => if better (grpS ms N s) (bestTo ms s N) then grpS ms N s else bestTo ms s N
/-- No two of the first i do not disturb each other. -/
def cliqTo (ms : List Nat) (l : List Int) : Nat → Bool
  | 0 => true
  | i + 1 => cliqTo ms l i && (l.take i).all (fun o => distB ms o (l.getD i 0))
def cliqRow (ms : List Nat) (l : List Int) (x : Int) (k : Nat) : Bool := (l.take k).all (fun o => distB ms o x)

theorem memTo_len (set : Nat) : ∀ i, (memTo set i).length ≤ i
  | 0 => by simp [memTo]
  | i + 1 => by
    have := memTo_len set i
    simp only [memTo]
    split
    · simp; omega
    · omega
theorem memTo_lt (set : Nat) : ∀ i, ∀ x ∈ memTo set i, 0 ≤ x ∧ x < (i : Int)
  | 0 => by simp [memTo]
  | i + 1 => by
    intro x hx
    simp only [memTo] at hx
    have ih := memTo_lt set i
    split at hx
    · rcases List.mem_append.1 hx with h | h
      · have := ih x h; omega
      · rw [List.mem_singleton] at h; omega
    · have := ih x hx; omega
theorem cliqTo_app (ms : List Nat) (l r : List Int) : ∀ i, i ≤ l.length → cliqTo ms (l ++ r) i = cliqTo ms l i
  | 0, _ => rfl
  | i + 1, h => by
    simp only [cliqTo]
    rw [cliqTo_app ms l r i (by omega), List.take_append_of_le_length (by omega)]
    congr 2
    funext o
    congr 1
    rw [List.getD_eq_getElem?_getD, List.getD_eq_getElem?_getD, List.getElem?_append_left (by omega)]
theorem mem_yes {set i : Nat} (h : set.testBit i = true) : memTo set (i + 1) = memTo set i ++ [(i : Int)] := by simp only [memTo]; rw [if_pos h]
theorem mem_no {set i : Nat} (h : set.testBit i = false) : memTo set (i + 1) = memTo set i := by simp only [memTo]; rw [if_neg (by rw [h]; decide)]
theorem cliq_snoc (ms : List Nat) (l : List Int) (x : Int) : cliqTo ms (l ++ [x]) (l ++ [x]).length = (cliqTo ms l l.length && l.all (fun o => distB ms o x)) := by
  rw [List.length_append, List.length_singleton]
  simp only [cliqTo]
  rw [cliqTo_app ms _ _ _ (Nat.le_refl _), List.take_append_of_le_length (Nat.le_refl _), List.take_length, List.getD_eq_getElem?_getD, List.getElem?_append_right (Nat.le_refl _), Nat.sub_self]
  rfl
theorem all_any (ms : List Nat) (l : List Int) (x : Int) : (l.any fun o => !distB ms o x) = !(l.all fun o => distB ms o x) := by
  induction l with
  | nil => rfl
  | cons a l ih => rw [List.any_cons, List.all_cons, ih, Bool.not_and]
theorem grp_yes {ms : List Nat} {set i : Nat} {out : List Int} (h : set.testBit i = true) (hg : grpTo ms set i = some out) : grpTo ms set (i + 1) = if out.any (fun o => !distB ms o (i : Int)) = true then none else some (out ++ [(i : Int)]) := by
  simp only [grpTo]
  rw [hg]
  dsimp only
  rw [if_pos h]
theorem grp_no {ms : List Nat} {set i : Nat} {out : List Int} (h : set.testBit i = false) (hg : grpTo ms set i = some out) : grpTo ms set (i + 1) = some out := by
  simp only [grpTo]
  rw [hg]
  dsimp only
  rw [if_neg (by rw [h]; decide)]
theorem grp_none {ms : List Nat} {set i : Nat} (hg : grpTo ms set i = none) : grpTo ms set (i + 1) = none := by
  simp only [grpTo]
  rw [hg]
/-- The group of a set is its members, if they are one. -/
theorem grp_mem (ms : List Nat) (set : Nat) : ∀ i, (cliqTo ms (memTo set i) (memTo set i).length = true ∧ grpTo ms set i = some (memTo set i)) ∨ (cliqTo ms (memTo set i) (memTo set i).length = false ∧ grpTo ms set i = none)
  | 0 => .inl ⟨rfl, rfl⟩
  | i + 1 => by
    by_cases hb : set.testBit i = true
    · rw [mem_yes hb, cliq_snoc]
      rcases grp_mem ms set i with ⟨h1, h2⟩ | ⟨h1, h2⟩
      · rw [grp_yes hb h2, h1, Bool.true_and, all_any]
        cases hq : (memTo set i).all fun o => distB ms o (i : Int)
        · exact .inr ⟨rfl, rfl⟩
        · exact .inl ⟨rfl, rfl⟩
      · rw [grp_none h2, h1]
        exact .inr ⟨rfl, rfl⟩
    · rw [Bool.not_eq_true] at hb
      rw [mem_no hb]
      rcases grp_mem ms set i with ⟨h1, h2⟩ | ⟨h1, h2⟩
      · exact .inl ⟨h1, grp_no hb h2⟩
      · exact .inr ⟨h1, grp_none h2⟩
theorem better_nil (b : List Int) : better [] b = false := by
  unfold better
  cases b with
  | nil => simp [lexC]
  | cons a l => simp
theorem best_succ (ms : List Nat) (s N : Nat) : bestTo ms s (N + 1) = if better (grpS ms N s) (bestTo ms s N) = true then grpS ms N s else bestTo ms s N := rfl
/-- The reference's round: the members, if they are a group and better. -/
theorem best_ref (ms : List Nat) (s N : Nat) : bestTo ms s (N + 1) = if (cliqTo ms (memTo N s) (memTo N s).length && better (memTo N s) (bestTo ms s N)) = true then memTo N s else bestTo ms s N := by
  rw [best_succ]
  rcases grp_mem ms N s with ⟨h1, h2⟩ | ⟨h1, h2⟩
  · have h3 : grpS ms N s = memTo N s := by unfold grpS; rw [h2]; rfl
    rw [h3, h1, Bool.true_and]
  · have h3 : grpS ms N s = [] := by unfold grpS; rw [h2]; rfl
    rw [h3, better_nil, h1, Bool.false_and, if_neg (by decide), if_neg (by decide)]
theorem best_one (ms : List Nat) (s : Nat) : bestTo ms s 1 = [] := by
  have h : memTo 0 s = [] := by
    induction s with
    | zero => rfl
    | succ s ih => simp only [memTo]; rw [if_neg (by simp), ih]
  rw [best_ref, h, better_nil, Bool.and_false, if_neg (by decide)]
  rfl
theorem best_from (ms : List Nat) (s : Nat) : ∀ N, bestTo ms s N = [] ∨ ∃ set, bestTo ms s N = memTo set s ∧ cliqTo ms (memTo set s) (memTo set s).length = true
  | 0 => .inl rfl
  | N + 1 => by
    rw [best_ref]
    by_cases h : (cliqTo ms (memTo N s) (memTo N s).length && better (memTo N s) (bestTo ms s N)) = true
    · rw [if_pos h]
      rw [Bool.and_eq_true] at h
      exact .inr ⟨N, rfl, h.1⟩
    · rw [if_neg h]
      exact best_from ms s N
theorem best_len (ms : List Nat) (s N : Nat) : (bestTo ms s N).length ≤ s := by
  rcases best_from ms s N with h | ⟨set, h, _⟩
  · rw [h]; simp
  · rw [h]; exact memTo_len set s

/-! ### The masks say who disturbs whom -/
def meets (p : Int × Int) (a b : Nat) : Bool := (p.1.toNat == a && p.2.toNat == b) || (p.2.toNat == a && p.1.toNat == b)
theorem orAt_bit {ms : List Nat} {x y a b : Nat} (ha : a < ms.length) : ((orAt ms x y).getD a 0).testBit b = ((ms.getD a 0).testBit b || (x == a && y == b)) := by
  unfold orAt
  by_cases h : x = a
  · subst h
    rw [List.getD_eq_getElem?_getD, List.getElem?_set_self ha, Option.getD_some, Nat.testBit_or, Nat.testBit_two_pow]
    simp
    congr 1
  · rw [List.getD_eq_getElem?_getD, List.getElem?_set_ne h, ← List.getD_eq_getElem?_getD]
    have : (x == a) = false := by simpa using h
    rw [this, Bool.false_and, Bool.or_false]
theorem fold_bit : ∀ (ps : List (Int × Int)) (ms : List Nat) (a b : Nat), a < ms.length → ((ps.foldl maskStep ms).getD a 0).testBit b = ((ms.getD a 0).testBit b || ps.any (meets · a b))
  | [], ms, a, b, _ => by simp
  | p :: ps, ms, a, b, ha => by
    rw [List.foldl_cons, fold_bit ps (maskStep ms p) a b (by unfold maskStep; rw [orAt_len, orAt_len]; exact ha)]
    unfold maskStep
    rw [orAt_bit (by rw [orAt_len]; exact ha), orAt_bit ha, List.any_cons]
    unfold meets
    simp only [Bool.or_assoc]
theorem mask_len (s : Nat) (ps : List (Int × Int)) : (maskS s ps).length = s := by
  unfold maskS
  suffices h : ∀ (ps : List (Int × Int)) (ms : List Nat), (ps.foldl maskStep ms).length = ms.length by rw [h]; simp
  intro ps
  induction ps with
  | nil => intro ms; rfl
  | cons p ps ih => intro ms; rw [List.foldl_cons, ih]; unfold maskStep; rw [orAt_len, orAt_len]
/-- Of a valid net: two stations disturb each other if their pair is one of the net's. -/
theorem dist_pairs {st : Int} {ps : List (Int × Int)} (h : (netS st ps).2 = 0) {a b : Int} (ha : 0 ≤ a ∧ a < st) (hb : 0 ≤ b ∧ b < st) : distB (maskS st.toNat ps) a b = ps.any (fun q => sameP q (min a b, max a b)) := by
  obtain ⟨_, _, _, hp⟩ := netS_zero h
  unfold distB maskS
  rw [fold_bit _ _ _ _ (by simp; omega)]
  rw [List.getD_eq_getElem?_getD, List.getElem?_replicate, if_pos (by omega), Option.getD_some, Nat.zero_testBit, Bool.false_or]
  rw [Bool.eq_iff_iff, List.any_eq_true, List.any_eq_true]
  constructor
  · rintro ⟨q, hq, hm⟩
    refine ⟨q, hq, ?_⟩
    have := hp q hq
    unfold meets at hm
    unfold sameP
    simp only [Bool.or_eq_true, Bool.and_eq_true, beq_iff_eq] at hm ⊢
    omega
  · rintro ⟨q, hq, hm⟩
    refine ⟨q, hq, ?_⟩
    have := hp q hq
    unfold sameP at hm
    unfold meets
    simp only [Bool.or_eq_true, Bool.and_eq_true, beq_iff_eq] at hm ⊢
    omega
theorem dist_sym {st : Int} {ps : List (Int × Int)} (h : (netS st ps).2 = 0) {a b : Int} (ha : 0 ≤ a ∧ a < st) (hb : 0 ≤ b ∧ b < st) : distB (maskS st.toNat ps) a b = distB (maskS st.toNat ps) b a := by
  rw [dist_pairs h ha hb, dist_pairs h hb ha, Int.min_comm, Int.max_comm]

/-! ### Plans that are right -/
/-- No two of the slots clash. -/
def okPlan (ms : List Nat) (cnt : Nat) (r : List Int) : Prop := (∀ x ∈ r, 0 ≤ x ∧ x < (cnt : Int)) ∧ ∀ i j, i < j → j < r.length → (ms.getD i 0).testBit j = true → r.getD i 0 ≠ r.getD j 0
theorem freeTo_ok {ms : List Nat} {slots : List Int} {c : Int} : ∀ {j : Nat}, freeTo ms slots c j = true → ∀ i, i < j → (ms.getD i 0).testBit slots.length = true → slots.getD i 0 ≠ c
  | 0, _, i, hi, _ => absurd hi (by omega)
  | j + 1, h, i, hi, hb => by
    simp only [freeTo, Bool.and_eq_true, Bool.not_eq_true', Bool.and_eq_false_iff] at h
    by_cases hij : i < j
    · exact freeTo_ok h.1 i hij hb
    · obtain rfl : i = j := by omega
      rcases h.2 with h2 | h2
      · simpa using h2
      · rw [hb] at h2; cases h2
theorem planF_ok {ms : List Nat} {cnt : Nat} : ∀ (f : Nat) (slots r : List Int), okPlan ms cnt slots → planF ms cnt f slots = some r → okPlan ms cnt r := by
  intro f
  induction f with
  | zero => intro slots r h hp; injection hp with hp; subst hp; exact h
  | succ f ih =>
    intro slots r h hp
    rw [planF_succ] at hp
    obtain ⟨l1, c, l2, hl, hc, _⟩ := List.findSome?_eq_some_iff.1 hp
    have hcn : c < cnt := List.mem_range.1 (by rw [hl]; simp)
    unfold candS at hc
    split at hc
    · rename_i hfree
      refine ih _ _ ⟨fun x hx => ?_, fun i j hij hj hb => ?_⟩ hc
      · rcases List.mem_append.1 hx with hx | hx
        · exact h.1 x hx
        · rw [List.mem_singleton] at hx; omega
      · rw [List.length_append, List.length_singleton] at hj
        by_cases hjl : j < slots.length
        · rw [List.getD_eq_getElem?_getD, List.getD_eq_getElem?_getD, List.getElem?_append_left (by omega), List.getElem?_append_left hjl, ← List.getD_eq_getElem?_getD, ← List.getD_eq_getElem?_getD]
          exact h.2 i j hij hjl hb
        · obtain rfl : j = slots.length := by omega
          rw [List.getD_eq_getElem?_getD, List.getD_eq_getElem?_getD, List.getElem?_append_left (by omega), List.getElem?_append_right (Nat.le_refl _), Nat.sub_self, ← List.getD_eq_getElem?_getD]
          exact freeTo_ok hfree i hij hb
    · cases hc
theorem planF_right {ms : List Nat} {cnt s : Nat} {r : List Int} (h : planF ms cnt s [] = some r) : okPlan ms cnt r ∧ r.length = s := by
  refine ⟨planF_ok s [] r ⟨by simp, fun i j _ hj => absurd hj (by simp)⟩ h, ?_⟩
  have := planF_len s [] r h
  simpa using this

/-! ### As many slots as the group has stations -/
theorem pigeon : ∀ (k : Nat) (l : List Nat), l.Nodup → (∀ x ∈ l, x < k) → l.length ≤ k
  | 0, l, _, h => by
    cases l with
    | nil => simp
    | cons a l => exact absurd (h a (by simp)) (by omega)
  | k + 1, l, hn, h => by
    by_cases hk : k ∈ l
    · have h1 := pigeon k (l.erase k) (hn.erase k) (fun x hx => by
        have h2 := h x (List.mem_of_mem_erase hx)
        have h3 : x ≠ k := fun e => by subst e; exact (List.Nodup.not_mem_erase hn) hx
        omega)
      rw [List.length_erase_of_mem hk] at h1
      omega
    · have h1 := pigeon k l hn (fun x hx => by
        have h2 := h x hx
        have h3 : x ≠ k := fun e => hk (e ▸ hx)
        omega)
      omega
theorem memTo_sorted (set : Nat) : ∀ i, (memTo set i).Pairwise (· < ·)
  | 0 => by simp [memTo]
  | i + 1 => by
    simp only [memTo]
    have ih := memTo_sorted set i
    split
    · rw [List.pairwise_append]
      exact ⟨ih, by simp, fun a ha b hb => by rw [List.mem_singleton] at hb; have := memTo_lt set i a ha; omega⟩
    · exact ih
theorem cliq_pair {ms : List Nat} {l : List Int} : ∀ {i : Nat}, i ≤ l.length → cliqTo ms l i = true → ∀ a b, a < b → b < i → distB ms (l.getD a 0) (l.getD b 0) = true
  | 0, _, _, a, b, _, hb => absurd hb (by omega)
  | i + 1, hi, h, a, b, hab, hb => by
    simp only [cliqTo, Bool.and_eq_true] at h
    by_cases hbi : b < i
    · exact cliq_pair (by omega) h.1 a b hab hbi
    · obtain rfl : b = i := by omega
      have h2 := h.2
      rw [List.all_eq_true] at h2
      refine h2 _ ?_
      rw [List.getD_eq_getElem?_getD, List.getElem?_eq_getElem (by omega), Option.getD_some]
      exact List.mem_take_iff_getElem.2 ⟨a, by omega, rfl⟩
theorem group_le {ms : List Nat} {s cnt set : Nat} {r : List Int} (hr : okPlan ms cnt r) (hl : r.length = s) (hc : cliqTo ms (memTo set s) (memTo set s).length = true) : (memTo set s).length ≤ cnt := by
  have hs := memTo_sorted set s
  have hm := memTo_lt set s
  have hp := cliq_pair (Nat.le_refl _) hc
  generalize memTo set s = l at *
  have key : ((l.map fun x => (r.getD x.toNat 0).toNat)).length ≤ cnt := by
    refine pigeon cnt _ ?_ ?_
    · rw [List.Nodup, List.pairwise_iff_getElem]
      intro i j hi hj hij
      rw [List.length_map] at hi hj
      rw [List.getElem_map, List.getElem_map]
      rw [List.pairwise_iff_getElem] at hs
      have h1 := hs i j hi hj hij
      have h2 := hp i j hij hj
      rw [List.getD_eq_getElem?_getD, List.getElem?_eq_getElem hi, List.getD_eq_getElem?_getD, List.getElem?_eq_getElem hj] at h2
      simp only [Option.getD_some] at h2
      have ha := hm l[i] (List.getElem_mem hi)
      have hb := hm l[j] (List.getElem_mem hj)
      have h3 := hr.2 l[i].toNat l[j].toNat (by omega) (by omega) h2
      have e1 : ∀ x : Nat, x < s → 0 ≤ r.getD x 0 := fun x hx => by
        rw [List.getD_eq_getElem?_getD, List.getElem?_eq_getElem (by omega)]
        exact (hr.1 _ (List.getElem_mem _)).1
      have := e1 l[i].toNat (by omega)
      have := e1 l[j].toNat (by omega)
      omega
    · intro x hx
      obtain ⟨y, hy, rfl⟩ := List.mem_map.1 hx
      have := hm y hy
      rw [List.getD_eq_getElem?_getD, List.getElem?_eq_getElem (by omega)]
      have h2 := hr.1 _ (List.getElem_mem (l := r) (n := y.toNat) (by omega))
      simp only [Option.getD_some]
      omega
  rwa [List.length_map] at key
theorem best_le {ms : List Nat} {s cnt N : Nat} {r : List Int} (h : planF ms cnt s [] = some r) : (bestTo ms s N).length ≤ cnt := by
  obtain ⟨h1, h2⟩ := planF_right h
  rcases best_from ms s N with hb | ⟨set, hb, hc⟩
  · rw [hb]; simp
  · rw [hb]; exact group_le h1 h2 hc

/-! ### Whether a plan is right -/
def clashP (slots : List Int) (p : Int × Int) : Bool := slots.getD p.1.toNat 0 == slots.getD p.2.toNat 0
def idxZ {α : Type} (p : α → Bool) (xs : List α) : Int := match xs.findIdx? p with | some i => (i : Int) | none => -1
def chkS (st : Int) (ps : List (Int × Int)) (slots : List Int) : Int × Int :=
  if (slots.length : Int) ≠ st then (0, 10) else if 0 ≤ idxZ (fun x => !inR x 0 7) slots then (idxZ (fun x => !inR x 0 7) slots, 2)
  else if 0 ≤ idxZ (clashP slots) ps then (idxZ (clashP slots) ps, 13) else (0, 0)
theorem idxZ_none {α : Type} {p : α → Bool} {xs : List α} (h : ∀ x ∈ xs, p x = false) : idxZ p xs = -1 := by
  unfold idxZ
  rw [List.findIdx?_eq_none_iff.2 h]
theorem chk_ok {st : Int} {ps : List (Int × Int)} (h : (netS st ps).2 = 0) {cnt : Nat} {r : List Int} (hr : planF (maskS st.toNat ps) cnt st.toNat [] = some r) (hc : cnt ≤ 8) : chkS st ps r = (0, 0) := by
  obtain ⟨⟨h1, h2⟩, h3⟩ := planF_right hr
  obtain ⟨n1, n2, _, n3⟩ := netS_zero h
  unfold chkS
  rw [if_neg (by omega), idxZ_none (fun x hx => by have := h1 x hx; simp [inR]; omega), if_neg (by omega), idxZ_none, if_neg (by omega)]
  intro p hp
  have hq := n3 p hp
  have hd : distB (maskS st.toNat ps) p.1 p.2 = true := by
    rw [dist_pairs h (by omega) (by omega), List.any_eq_true]
    refine ⟨p, hp, ?_⟩
    unfold sameP
    rw [Int.min_eq_left (by omega), Int.max_eq_right (by omega)]
    simp
  have := h2 p.1.toNat p.2.toNat (by omega) (by omega) hd
  unfold clashP
  simpa using this
end Go.Sky

namespace Go.Sky

/-- One step of the remainder: a bit shifted out. -/
def crcBit (r : Nat) : Nat := if 65535 < r * 2 then (r * 2) ^^^ 69665 else r * 2
def crcBits (r : Nat) : Nat → Nat
  | 0 => r
  | k + 1 => crcBit (crcBits r k)
def crcByte (r : Nat) (c : UInt8) : Nat := crcBits (r ^^^ (c.toNat * 256)) 8
def crcS (s : List UInt8) : Nat := s.foldl crcByte 65535

theorem crcBit_lt {r : Nat} (h : r < 65536) : crcBit r < 65536 := by
  unfold crcBit
  split
  · rename_i h1
    have hx : (r * 2) ^^^ 69665 < 2 ^ 17 := Nat.xor_lt_two_pow (by omega) (by omega)
    have ht : Nat.testBit ((r * 2) ^^^ 69665) 16 = false := by
      rw [Nat.testBit_xor]
      have h2 : Nat.testBit (r * 2) 16 = true := by
        rw [Nat.testBit_eq_decide_div_mod_eq]
        simp; omega
      rw [h2]; decide
    rw [Nat.testBit_eq_decide_div_mod_eq] at ht
    simp at ht
    omega
  · omega
theorem crcBits_lt {r : Nat} (h : r < 65536) (k : Nat) : crcBits r k < 65536 := by
  induction k with
  | zero => exact h
  | succ k ih => exact crcBit_lt ih
theorem crcByte_lt {r : Nat} (h : r < 65536) (c : UInt8) : crcByte r c < 65536 := by
  have hx : r ^^^ (c.toNat * 256) < 65536 := by
    have h1 : r < 2 ^ 16 := h
    have h2 : c.toNat * 256 < 2 ^ 16 := by have := c.toNat_lt; omega
    exact Nat.xor_lt_two_pow h1 h2
  unfold crcByte
  generalize r ^^^ (c.toNat * 256) = q at hx
  exact crcBits_lt hx 8
theorem crcFold_lt (s : List UInt8) : ∀ r, r < 65536 → s.foldl crcByte r < 65536 := by
  induction s with
  | nil => intro r h; simpa using h
  | cons c s ih =>
    intro r h
    rw [List.foldl_cons]
    have h2 := crcByte_lt h c
    generalize crcByte r c = q at h2
    exact ih q h2
theorem crcS_lt (s : List UInt8) : crcS s < 65536 := by unfold crcS; exact crcFold_lt s 65535 (by omega)

end Go.Sky
