/- Plain functions of chapter 9 (clocks): what the code computes. No program. -/
namespace Go.Sky

/-- The first error that is not 0. -/
def firstE : List Int → Int
  | [] => 0
  | e :: l => if e = 0 then firstE l else e
/-- No error if the test holds. -/
def errU (c : Bool) (e : Int) : Int := if c then 0 else e
def inR (n lo hi : Int) : Bool := decide (lo ≤ n ∧ n ≤ hi)

structure Exch where
  s : Int
  t : Int
  r : Int

def tick (n : Int) : Bool := inR n 0 1000000000000
def exErr (x : Exch) : Int := firstE [errU (tick x.s && tick x.t && tick x.r) 2, errU (decide (x.s ≤ x.r)) 9]
def timeE (d t : Int) : Int := firstE [errU (inR d 0 1000) 2, errU (tick t) 2]
def upS (n b : Int) : Int := (n + b - 1) / b
def max3 (a b : Int) : Int := max 0 (max a b)
def offBy (x : Exch) (d t : Int) : Int × Int :=
  (x.t - x.r - upS (d * max3 (x.s - t) (t - x.r)) 1000, x.t - x.s + upS (d * max3 (x.s - t) (t - x.r)) 1000)

/-- A fold over the first k elements. -/
def foldTo {α β : Type} (f : β → α → β) (a : β) (xs : List α) (k : Nat) : β := (xs.take k).foldl f a
theorem foldTo_zero {α β : Type} (f : β → α → β) (a : β) (xs : List α) : foldTo f a xs 0 = a := rfl
theorem foldTo_step {α β : Type} (f : β → α → β) (a : β) (xs : List α) (k : Nat) (x : α) (h : xs[k]? = some x) : foldTo f a xs (k + 1) = f (foldTo f a xs k) x := by
  obtain ⟨hk, rfl⟩ := List.getElem?_eq_some_iff.1 h
  unfold foldTo
  rw [List.take_succ_eq_append_getElem hk, List.foldl_append]
  rfl
theorem foldTo_all {α β : Type} (f : β → α → β) (a : β) (xs : List α) (k : Nat) (h : xs.length ≤ k) : foldTo f a xs k = xs.foldl f a := by
  unfold foldTo; rw [List.take_of_length_le h]

/-- The common part of ranges. -/
def rCut (a r : Int × Int) : Int × Int := (max a.1 r.1, min a.2 r.2)
def comS (xs : List (Int × Int)) : Int × Int := xs.foldl rCut (xs.headD (0, 0))

/-- The error of exchanges, checked one by one. -/
def exsErr : List Exch → Int
  | [] => 0
  | x :: l => if exErr x = 0 then exsErr l else exErr x
def offE1 (l : List Exch) : Int := firstE [errU (decide (0 < l.length)) 10, errU (decide (((l.length : Nat) : Int) ≤ 20)) 8, exsErr l]
def offsErr (l : List Exch) (d t : Int) : Int := firstE [offE1 l, timeE d t]
def offAtS (l : List Exch) (d t : Int) : (Int × Int) × Int :=
  if offsErr l d t = 0 then
    if (comS (l.map (offBy · d t))).1 ≤ (comS (l.map (offBy · d t))).2 then (comS (l.map (offBy · d t)), 0) else ((0, 0), 13)
  else ((0, 0), offsErr l d t)

theorem exsErr_append (a b : List Exch) : exsErr (a ++ b) = if exsErr a = 0 then exsErr b else exsErr a := by
  induction a with
  | nil => simp [exsErr]
  | cons x a ih =>
    simp only [List.cons_append, exsErr]
    by_cases h : exErr x = 0 <;> simp [h, ih]
theorem exsErr_take (xs : List Exch) (k : Nat) (x : Exch) (h : xs[k]? = some x) (h0 : exsErr (xs.take k) = 0) : exsErr (xs.take (k + 1)) = exErr x := by
  obtain ⟨hk, rfl⟩ := List.getElem?_eq_some_iff.1 h
  rw [List.take_succ_eq_append_getElem hk, exsErr_append, if_pos h0]
  simp only [exsErr]
  by_cases h : exErr xs[k] = 0 <;> simp [h]
theorem exsErr_stop (xs : List Exch) (k : Nat) (h0 : exsErr (xs.take k) ≠ 0) : exsErr xs = exsErr (xs.take k) := by
  have := exsErr_append (xs.take k) (xs.drop k)
  rw [List.take_append_drop] at this
  rw [this, if_neg h0]
theorem exsErr_zero {xs : List Exch} (h : exsErr xs = 0) : ∀ x ∈ xs, exErr x = 0 := by
  induction xs with
  | nil => intro x hx; cases hx
  | cons y ys ih =>
    simp only [exsErr] at h
    by_cases hy : exErr y = 0
    · rw [if_pos hy] at h
      intro x hx
      rcases List.mem_cons.1 hx with rfl | hx
      · exact hy
      · exact ih h x hx
    · rw [if_neg hy] at h; exact absurd h hy
theorem firstE_cons (e : Int) (l : List Int) : firstE (e :: l) = if e = 0 then firstE l else e := rfl
theorem firstE_two (a b : Int) : firstE [a, b] = if a = 0 then b else a := by
  simp only [firstE]; by_cases h : b = 0 <;> simp [h]
theorem firstE_three (a b c : Int) : firstE [a, b, c] = if firstE [a, b] = 0 then c else firstE [a, b] := by
  simp only [firstE]
  by_cases ha : a = 0 <;> by_cases hb : b = 0 <;> by_cases hc : c = 0 <;> simp_all
theorem errU_zero {c : Bool} {e : Int} (he : e ≠ 0) : errU c e = 0 ↔ c = true := by cases c <;> simp [errU, he]
theorem exErr_zero {x : Exch} (h : exErr x = 0) : 0 ≤ x.s ∧ x.s ≤ x.r ∧ x.r ≤ 1000000000000 ∧ 0 ≤ x.t ∧ x.t ≤ 1000000000000 := by
  unfold exErr at h
  rw [firstE_two] at h
  by_cases h1 : errU (tick x.s && tick x.t && tick x.r) 2 = 0
  · rw [if_pos h1, errU_zero (by decide)] at h
    rw [errU_zero (by decide)] at h1
    simp [tick, inR] at h1 h
    omega
  · rw [if_neg h1] at h; exact absurd h h1
theorem timeE_zero {d t : Int} (h : timeE d t = 0) : 0 ≤ d ∧ d ≤ 1000 ∧ 0 ≤ t ∧ t ≤ 1000000000000 := by
  unfold timeE at h
  rw [firstE_two] at h
  by_cases h1 : errU (inR d 0 1000) 2 = 0
  · rw [if_pos h1, errU_zero (by decide)] at h
    rw [errU_zero (by decide)] at h1
    simp [tick, inR] at h1 h
    omega
  · rw [if_neg h1] at h; exact absurd h h1

theorem offsErr_zero {xs : List Exch} {d t : Int} {n : Nat} (hl : xs.length = n) (h : offsErr xs d t = 0) : exsErr xs = 0 ∧ timeE d t = 0 ∧ n ≤ 20 := by
  unfold offsErr at h
  rw [firstE_two] at h
  by_cases h1 : offE1 xs = 0
  · rw [if_pos h1] at h
    unfold offE1 at h1
    rw [firstE_three, firstE_two] at h1
    by_cases h2 : errU (decide (0 < xs.length)) 10 = 0
    · rw [if_pos h2] at h1
      by_cases h3 : errU (decide (((xs.length : Nat) : Int) ≤ 20)) 8 = 0
      · rw [if_pos h3] at h1
        rw [errU_zero (by decide)] at h3
        exact ⟨h1, h, by simp at h3; omega⟩
      · rw [if_neg h3] at h1; exact absurd h1 h3
    · rw [if_neg h2, if_neg h2] at h1; exact absurd h1 h2
  · rw [if_neg h1] at h; exact absurd h h1

theorem offsErr_pos {xs : List Exch} {d t : Int} {n : Nat} (hl : xs.length = n) (h : offsErr xs d t = 0) : 0 < n := by
  unfold offsErr at h
  rw [firstE_two] at h
  by_cases h1 : offE1 xs = 0
  · unfold offE1 at h1
    rw [firstE_three, firstE_two] at h1
    by_cases h2 : errU (decide (0 < xs.length)) 10 = 0
    · rw [errU_zero (by decide)] at h2
      simpa [hl] using h2
    · rw [if_neg h2, if_neg h2] at h1; exact absurd h1 h2
  · rw [if_neg h1] at h; exact absurd h h1

def offByS (x : Exch) (d t : Int) : (Int × Int) × Int := if firstE [exErr x, timeE d t] = 0 then (offBy x d t, 0) else ((0, 0), firstE [exErr x, timeE d t])
def trueAtS (l : List Exch) (d t : Int) : (Int × Int) × Int := if (offAtS l d t).2 = 0 then ((t + (offAtS l d t).1.1, t + (offAtS l d t).1.2), 0) else ((0, 0), (offAtS l d t).2)

end Go.Sky
