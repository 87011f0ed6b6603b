/- Plain functions of chapter 9 (clocks): what the code computes. No program.
   Plain functions of chapter 9 (packing). No program.
   Plain functions of chapter 9 (checks). No program.
   Plain functions of chapter 9 (plans). No program. -/


namespace Go.Sky

/-- The first error that is not 0. -/
def firstE : List Int → Int
  | [] => 0
  | e :: l => if e = 0 then firstE l else e
/-- No error if the test holds. -/
def errU (c : Bool) (e : Int) : Int := if c then 0 else e
def inR (n lo hi : Int) : Bool := decide (lo ≤ n ∧ n ≤ hi)

structure Exch where
  s : Int
  t : Int
  r : Int

def tick (n : Int) : Bool := inR n 0 1000000000000
def exErr (x : Exch) : Int := firstE [errU (tick x.s && tick x.t && tick x.r) 2, errU (decide (x.s ≤ x.r)) 9]
def timeE (d t : Int) : Int := firstE [errU (inR d 0 1000) 2, errU (tick t) 2]
def upS (n b : Int) : Int := (n + b - 1) / b
def max3 (a b : Int) : Int := max 0 (max a b)
def offBy (x : Exch) (d t : Int) : Int × Int :=
  (x.t - x.r - upS (d * max3 (x.s - t) (t - x.r)) 1000, x.t - x.s + upS (d * max3 (x.s - t) (t - x.r)) 1000)

/-- A fold over the first k elements. -/
def foldTo {α β : Type} (f : β → α → β) (a : β) (xs : List α) (k : Nat) : β := (xs.take k).foldl f a
theorem foldTo_zero {α β : Type} (f : β → α → β) (a : β) (xs : List α) : foldTo f a xs 0 = a := rfl
theorem foldTo_step {α β : Type} (f : β → α → β) (a : β) (xs : List α) (k : Nat) (x : α) (h : xs[k]? = some x) : foldTo f a xs (k + 1) = f (foldTo f a xs k) x := by
  obtain ⟨hk, rfl⟩ := List.getElem?_eq_some_iff.1 h
  unfold foldTo
  rw [List.take_succ_eq_append_getElem hk, List.foldl_append]
  rfl
theorem foldTo_all {α β : Type} (f : β → α → β) (a : β) (xs : List α) (k : Nat) (h : xs.length ≤ k) : foldTo f a xs k = xs.foldl f a := by
  unfold foldTo; rw [List.take_of_length_le h]

/-- The common part of ranges. -/
def rCut (a r : Int × Int) : Int × Int := (max a.1 r.1, min a.2 r.2)
def comS (xs : List (Int × Int)) : Int × Int := xs.foldl rCut (xs.headD (0, 0))

/-- The error of exchanges, checked one by one. -/
def exsErr : List Exch → Int
  | [] => 0
  | x :: l => if exErr x = 0 then exsErr l else exErr x
def offE1 (l : List Exch) : Int := firstE [errU (decide (0 < l.length)) 10, errU (decide (((l.length : Nat) : Int) ≤ 20)) 8, exsErr l]
def offsErr (l : List Exch) (d t : Int) : Int := firstE [offE1 l, timeE d t]
def offAtS (l : List Exch) (d t : Int) : (Int × Int) × Int :=
  if offsErr l d t = 0 then
    if (comS (l.map (offBy · d t))).1 ≤ (comS (l.map (offBy · d t))).2 then (comS (l.map (offBy · d t)), 0) else ((0, 0), 13)
  else ((0, 0), offsErr l d t)

theorem exsErr_append (a b : List Exch) : exsErr (a ++ b) = if exsErr a = 0 then exsErr b else exsErr a := by
  induction a with
  | nil => simp [exsErr]
  | cons x a ih =>
    simp only [List.cons_append, exsErr]
    by_cases h : exErr x = 0 <;> simp [h, ih]
theorem exsErr_take (xs : List Exch) (k : Nat) (x : Exch) (h : xs[k]? = some x) (h0 : exsErr (xs.take k) = 0) : exsErr (xs.take (k + 1)) = exErr x := by
  obtain ⟨hk, rfl⟩ := List.getElem?_eq_some_iff.1 h
  rw [List.take_succ_eq_append_getElem hk, exsErr_append, if_pos h0]
  simp only [exsErr]
  by_cases h : exErr xs[k] = 0 <;> simp [h]
theorem exsErr_stop (xs : List Exch) (k : Nat) (h0 : exsErr (xs.take k) ≠ 0) : exsErr xs = exsErr (xs.take k) := by
  have := exsErr_append (xs.take k) (xs.drop k)
  rw [List.take_append_drop] at this
  rw [this, if_neg h0]
theorem exsErr_zero {xs : List Exch} (h : exsErr xs = 0) : ∀ x ∈ xs, exErr x = 0 := by
  induction xs with
  | nil => intro x hx; cases hx
  | cons y ys ih =>
    simp only [exsErr] at h
    by_cases hy : exErr y = 0
    · rw [if_pos hy] at h
      intro x hx
      rcases List.mem_cons.1 hx with rfl | hx
      · exact hy
      · exact ih h x hx
    · rw [if_neg hy] at h; exact absurd h hy
theorem firstE_cons (e : Int) (l : List Int) : firstE (e :: l) = if e = 0 then firstE l else e := rfl
theorem firstE_two (a b : Int) : firstE [a, b] = if a = 0 then b else a := by
  simp only [firstE]; by_cases h : b = 0 <;> simp [h]
theorem firstE_three (a b c : Int) : firstE [a, b, c] = if firstE [a, b] = 0 then c else firstE [a, b] := by
  simp only [firstE]
  by_cases ha : a = 0 <;> by_cases hb : b = 0 <;> by_cases hc : c = 0 <;> simp_all
theorem errU_zero {c : Bool} {e : Int} (he : e ≠ 0) : errU c e = 0 ↔ c = true := by cases c <;> simp [errU, he]
theorem exErr_zero {x : Exch} (h : exErr x = 0) : 0 ≤ x.s ∧ x.s ≤ x.r ∧ x.r ≤ 1000000000000 ∧ 0 ≤ x.t ∧ x.t ≤ 1000000000000 := by
  unfold exErr at h
  rw [firstE_two] at h
  by_cases h1 : errU (tick x.s && tick x.t && tick x.r) 2 = 0
  · rw [if_pos h1, errU_zero (by decide)] at h
    rw [errU_zero (by decide)] at h1
    simp [tick, inR] at h1 h
    omega
  · rw [if_neg h1] at h; exact absurd h h1
theorem timeE_zero {d t : Int} (h : timeE d t = 0) : 0 ≤ d ∧ d ≤ 1000 ∧ 0 ≤ t ∧ t ≤ 1000000000000 := by
  unfold timeE at h
  rw [firstE_two] at h
  by_cases h1 : errU (inR d 0 1000) 2 = 0
  · rw [if_pos h1, errU_zero (by decide)] at h
    rw [errU_zero (by decide)] at h1
    simp [tick, inR] at h1 h
    omega
  · rw [if_neg h1] at h; exact absurd h h1

theorem offsErr_zero {xs : List Exch} {d t : Int} {n : Nat} (hl : xs.length = n) (h : offsErr xs d t = 0) : exsErr xs = 0 ∧ timeE d t = 0 ∧ n ≤ 20 := by
  unfold offsErr at h
  rw [firstE_two] at h
  by_cases h1 : offE1 xs = 0
  · rw [if_pos h1] at h
    unfold offE1 at h1
    rw [firstE_three, firstE_two] at h1
    by_cases h2 : errU (decide (0 < xs.length)) 10 = 0
    · rw [if_pos h2] at h1
      by_cases h3 : errU (decide (((xs.length : Nat) : Int) ≤ 20)) 8 = 0
      · rw [if_pos h3] at h1
        rw [errU_zero (by decide)] at h3
        exact ⟨h1, h, by simp at h3; omega⟩
      · rw [if_neg h3] at h1; exact absurd h1 h3
    · rw [if_neg h2, if_neg h2] at h1; exact absurd h1 h2
  · rw [if_neg h1] at h; exact absurd h h1

theorem offsErr_pos {xs : List Exch} {d t : Int} {n : Nat} (hl : xs.length = n) (h : offsErr xs d t = 0) : 0 < n := by
  unfold offsErr at h
  rw [firstE_two] at h
  by_cases h1 : offE1 xs = 0
  · unfold offE1 at h1
    rw [firstE_three, firstE_two] at h1
    by_cases h2 : errU (decide (0 < xs.length)) 10 = 0
    · rw [errU_zero (by decide)] at h2
      simpa [hl] using h2
    · rw [if_neg h2, if_neg h2] at h1; exact absurd h1 h2
  · rw [if_neg h1] at h; exact absurd h h1

def offByS (x : Exch) (d t : Int) : (Int × Int) × Int := if firstE [exErr x, timeE d t] = 0 then (offBy x d t, 0) else ((0, 0), firstE [exErr x, timeE d t])
def trueAtS (l : List Exch) (d t : Int) : (Int × Int) × Int := if (offAtS l d t).2 = 0 then ((t + (offAtS l d t).1.1, t + (offAtS l d t).1.2), 0) else ((0, 0), (offAtS l d t).2)

end Go.Sky

namespace Go.Sky

/-- The last count raised by one. -/
def bump (l : List Int) : List Int := l.set (l.length - 1) (l.getD (l.length - 1) 0 + 1)
/-- The runs of the first k numbers. -/
def runsTo (xs : List Int) : Nat → List Int
  | 0 => []
  | k + 1 => if 0 < k ∧ xs[k - 1]? = xs[k]? then bump (runsTo xs k) else runsTo xs k ++ [xs.getD k 0, 1]
def runsS (xs : List Int) : List Int := runsTo xs xs.length

theorem bump_len (l : List Int) : (bump l).length = l.length := by simp [bump]
theorem runsTo_len (xs : List Int) (k : Nat) : (runsTo xs k).length ≤ 2 * k := by
  induction k with
  | zero => simp [runsTo]
  | succ k ih =>
    simp only [runsTo]
    split
    · rw [bump_len]; omega
    · simp; omega
theorem runsTo_pos (xs : List Int) (k : Nat) (hk : 0 < k) : 2 ≤ (runsTo xs k).length := by
  induction k with
  | zero => omega
  | succ k ih =>
    simp only [runsTo]
    split
    · rename_i h
      rw [bump_len]; exact ih h.1
    · simp
theorem runsTo_last (xs : List Int) (k : Nat) : 0 ≤ (runsTo xs k).getD ((runsTo xs k).length - 1) 0 ∧ (runsTo xs k).getD ((runsTo xs k).length - 1) 0 ≤ k := by
  induction k with
  | zero => simp [runsTo]
  | succ k ih =>
    simp only [runsTo]
    split
    · rename_i h
      have hp := runsTo_pos xs k h.1
      rw [bump_len]
      unfold bump
      rw [List.getD_eq_getElem?_getD, List.getElem?_set_self (by omega)]
      simp only [Option.getD_some]
      omega
    · rw [List.length_append]
      simp only [List.length_cons, List.length_nil, Nat.zero_add]
      rw [List.getD_eq_getElem?_getD, List.getElem?_append_right (by omega)]
      rw [show (runsTo xs k).length + (1 + 1) - 1 - (runsTo xs k).length = 1 by omega]
      simp only [List.getElem?_cons_succ, List.getElem?_cons_zero, Option.getD_some]
      omega

/-- The differences: of the numbers from index i + 1 on. -/
def diffFrom (xs : List Int) (i : Nat) : List Int := (List.range xs.length).map fun j => if i < j then xs.getD j 0 - xs.getD (j - 1) 0 else xs.getD j 0
def diffS (xs : List Int) : List Int := diffFrom xs 0
theorem diffFrom_len (xs : List Int) (i : Nat) : (diffFrom xs i).length = xs.length := by simp [diffFrom]
theorem diffS_len (xs : List Int) : (diffS xs).length = xs.length := diffFrom_len xs 0
theorem runsS_len (xs : List Int) : (runsS xs).length ≤ 2 * xs.length := runsTo_len xs xs.length
theorem diffFrom_all (xs : List Int) (i : Nat) (h : xs.length ≤ i + 1) : diffFrom xs i = xs := by
  apply List.ext_getElem?
  intro j
  unfold diffFrom
  by_cases hj : j < xs.length
  · rw [List.getElem?_map, List.getElem?_range hj]
    simp only [Option.map_some]
    rw [if_neg (by omega), List.getD_eq_getElem?_getD, List.getElem?_eq_getElem hj]
    rfl
  · rw [List.getElem?_eq_none (by simp; omega), List.getElem?_eq_none (by omega)]
theorem diffFrom_at (xs : List Int) (i j : Nat) (hj : j < xs.length) : (diffFrom xs i)[j]? = some (if i < j then xs.getD j 0 - xs.getD (j - 1) 0 else xs.getD j 0) := by
  unfold diffFrom
  rw [List.getElem?_map, List.getElem?_range hj]
  rfl
theorem diffFrom_set (xs : List Int) (i : Nat) (_hi : i + 1 < xs.length) : (diffFrom xs (i + 1)).set (i + 1) (xs.getD (i + 1) 0 - xs.getD i 0) = diffFrom xs i := by
  apply List.ext_getElem?
  intro j
  by_cases hj : j < xs.length
  · rw [diffFrom_at xs i j hj]
    by_cases hij : i + 1 = j
    · subst hij
      rw [List.getElem?_set_self (by rw [diffFrom_len]; exact hj), if_pos (by omega)]
      rfl
    · rw [List.getElem?_set_ne hij, diffFrom_at xs (i + 1) j hj]
      by_cases h1 : i < j
      · rw [if_pos h1, if_pos (by omega)]
      · rw [if_neg h1, if_neg (by omega)]
  · rw [List.getElem?_eq_none (by simp [diffFrom_len]; omega), List.getElem?_eq_none (by rw [diffFrom_len]; omega)]

/-- The way and the numbers of a packed series. -/
def packWay (xs : List Int) : Int :=
  let d := (runsS (diffS xs)).length
  let r := (runsS xs).length
  if d < xs.length then (if r < d then 2 else 1) else (if r < xs.length then 2 else 0)
def packNums (xs : List Int) : List Int :=
  let d := (runsS (diffS xs)).length
  let r := (runsS xs).length
  if d < xs.length then (if r < d then runsS xs else runsS (diffS xs)) else (if r < xs.length then runsS xs else xs)

theorem pack_of {xs : List Int} {n m4 m5 : Nat} (hl : xs.length = n) (h4 : (runsS (diffS xs)).length = m4) (h5 : (runsS xs).length = m5) :
    packWay xs = (if m4 < n then (if m5 < m4 then 2 else 1) else (if m5 < n then 2 else 0)) ∧
    packNums xs = (if m4 < n then (if m5 < m4 then runsS xs else runsS (diffS xs)) else (if m5 < n then runsS xs else xs)) := by
  unfold packWay packNums
  rw [hl, h4, h5]
  exact ⟨rfl, rfl⟩

end Go.Sky

namespace Go.Sky

/-- One step of the remainder: a bit shifted out. -/
def crcBit (r : Nat) : Nat := if 65535 < r * 2 then (r * 2) ^^^ 69665 else r * 2
def crcBits (r : Nat) : Nat → Nat
  | 0 => r
  | k + 1 => crcBit (crcBits r k)
def crcByte (r : Nat) (c : UInt8) : Nat := crcBits (r ^^^ (c.toNat * 256)) 8
def crcS (s : List UInt8) : Nat := s.foldl crcByte 65535

theorem crcBit_lt {r : Nat} (h : r < 65536) : crcBit r < 65536 := by
  unfold crcBit
  split
  · rename_i h1
    have hx : (r * 2) ^^^ 69665 < 2 ^ 17 := Nat.xor_lt_two_pow (by omega) (by omega)
    have ht : Nat.testBit ((r * 2) ^^^ 69665) 16 = false := by
      rw [Nat.testBit_xor]
      have h2 : Nat.testBit (r * 2) 16 = true := by
        rw [Nat.testBit_eq_decide_div_mod_eq]
        simp; omega
      rw [h2]; decide
    rw [Nat.testBit_eq_decide_div_mod_eq] at ht
    simp at ht
    omega
  · omega
theorem crcBits_lt {r : Nat} (h : r < 65536) (k : Nat) : crcBits r k < 65536 := by
  induction k with
  | zero => exact h
  | succ k ih => exact crcBit_lt ih
theorem crcByte_lt {r : Nat} (h : r < 65536) (c : UInt8) : crcByte r c < 65536 := by
  have hx : r ^^^ (c.toNat * 256) < 65536 := by
    have h1 : r < 2 ^ 16 := h
    have h2 : c.toNat * 256 < 2 ^ 16 := by have := c.toNat_lt; omega
    exact Nat.xor_lt_two_pow h1 h2
  unfold crcByte
  generalize r ^^^ (c.toNat * 256) = q at hx
  exact crcBits_lt hx 8
theorem crcFold_lt (s : List UInt8) : ∀ r, r < 65536 → s.foldl crcByte r < 65536 := by
  induction s with
  | nil => intro r h; simpa using h
  | cons c s ih =>
    intro r h
    rw [List.foldl_cons]
    have h2 := crcByte_lt h c
    generalize crcByte r c = q at h2
    exact ih q h2
theorem crcS_lt (s : List UInt8) : crcS s < 65536 := by unfold crcS; exact crcFold_lt s 65535 (by omega)

end Go.Sky

namespace Go.Sky

def sameP (p q : Int × Int) : Bool := p.1 == q.1 && p.2 == q.2
def netE0 (st : Int) (np : Nat) : Int := firstE [errU (inR st 1 8) 2, errU (decide (((np : Nat) : Int) ≤ 28)) 8]
def pairErr (st : Int) (pre : List (Int × Int)) (p : Int × Int) : Int :=
  firstE [errU (inR p.1 0 (st - 1) && inR p.2 0 (st - 1)) 6, errU (decide (p.1 < p.2)) 9, errU (!pre.any (sameP p)) 23]
def netFrom (st : Int) (pre : List (Int × Int)) : List (Int × Int) → Int → Int × Int
  | [], _ => (0, 0)
  | p :: l, i => if pairErr st pre p = 0 then netFrom st (pre ++ [p]) l (i + 1) else (i, pairErr st pre p)
def netS (st : Int) (ps : List (Int × Int)) : Int × Int := if netE0 st ps.length = 0 then netFrom st [] ps 0 else (0, netE0 st ps.length)

theorem netFrom_step {st : Int} {ps : List (Int × Int)} {k : Nat} {p : Int × Int} (h : ps[k]? = some p) :
    netFrom st (ps.take k) (ps.drop k) k = if pairErr st (ps.take k) p = 0 then netFrom st (ps.take (k + 1)) (ps.drop (k + 1)) ((k + 1 : Nat) : Int) else ((k : Int), pairErr st (ps.take k) p) := by
  obtain ⟨hk, rfl⟩ := List.getElem?_eq_some_iff.1 h
  rw [List.drop_eq_getElem_cons hk, netFrom, List.take_succ_eq_append_getElem hk]
  rfl
theorem netE0_zero {st : Int} {n : Nat} (h : netE0 st n = 0) : 1 ≤ st ∧ st ≤ 8 ∧ n ≤ 28 := by
  unfold netE0 at h
  rw [firstE_two] at h
  by_cases h1 : errU (inR st 1 8) 2 = 0
  · rw [if_pos h1, errU_zero (by decide)] at h
    rw [errU_zero (by decide)] at h1
    simp [inR] at h1 h
    omega
  · rw [if_neg h1] at h; exact absurd h h1

theorem pairErr_zero {st : Int} {pre : List (Int × Int)} {p : Int × Int} (h : pairErr st pre p = 0) : 0 ≤ p.1 ∧ p.1 < p.2 ∧ p.2 < st := by
  unfold pairErr at h
  rw [firstE_three, firstE_two] at h
  by_cases h1 : errU (inR p.1 0 (st - 1) && inR p.2 0 (st - 1)) 6 = 0
  · rw [if_pos h1] at h
    by_cases h2 : errU (decide (p.1 < p.2)) 9 = 0
    · rw [errU_zero (by decide)] at h1 h2
      simp [inR] at h1 h2
      omega
    · rw [if_neg h2] at h; exact absurd h h2
  · rw [if_neg h1, if_neg h1] at h; exact absurd h h1
theorem netFrom_zero {st : Int} : ∀ (l pre : List (Int × Int)) (i : Int), (netFrom st pre l i).2 = 0 → ∀ p ∈ l, 0 ≤ p.1 ∧ p.1 < p.2 ∧ p.2 < st := by
  intro l
  induction l with
  | nil => intro pre i _ p hp; cases hp
  | cons q l ih =>
    intro pre i h p hp
    rw [netFrom] at h
    by_cases hq : pairErr st pre q = 0
    · rw [if_pos hq] at h
      rcases List.mem_cons.1 hp with rfl | hp
      · exact pairErr_zero hq
      · exact ih _ _ h p hp
    · rw [if_neg hq] at h; exact absurd h hq
theorem netS_zero {st : Int} {ps : List (Int × Int)} (h : (netS st ps).2 = 0) : 1 ≤ st ∧ st ≤ 8 ∧ ps.length ≤ 28 ∧ ∀ p ∈ ps, 0 ≤ p.1 ∧ p.1 < p.2 ∧ p.2 < st := by
  unfold netS at h
  by_cases h0 : netE0 st ps.length = 0
  · rw [if_pos h0] at h
    obtain ⟨a, b, c⟩ := netE0_zero h0
    exact ⟨a, b, c, netFrom_zero _ _ _ h⟩
  · rw [if_neg h0] at h; exact absurd h h0

/-- The masks of a net: for each station those that it disturbs. -/
def orAt (ms : List Nat) (a b : Nat) : List Nat := ms.set a (ms.getD a 0 ||| 2 ^ b)
def maskStep (ms : List Nat) (p : Int × Int) : List Nat := orAt (orAt ms p.1.toNat p.2.toNat) p.2.toNat p.1.toNat
def maskS (s : Nat) (ps : List (Int × Int)) : List Nat := ps.foldl maskStep (List.replicate s 0)
theorem orAt_len (ms : List Nat) (a b : Nat) : (orAt ms a b).length = ms.length := by simp [orAt]
theorem orAt_lt {ms : List Nat} {a b : Nat} (hm : ∀ m ∈ ms, m < 256) (hb : b < 8) : ∀ m ∈ orAt ms a b, m < 256 := by
  intro m h
  unfold orAt at h
  rcases List.mem_or_eq_of_mem_set h with h | rfl
  · exact hm m h
  · have h1 : ms.getD a 0 < 2 ^ 8 := by
      rw [List.getD_eq_getElem?_getD]
      cases hq : ms[a]? with
      | none => simp
      | some x => exact hm x (List.mem_of_getElem? hq)
    have h2 : (2 : Nat) ^ b < 2 ^ 8 := Nat.pow_lt_pow_right (by omega) hb
    exact Nat.or_lt_two_pow h1 h2

/-- Whether the first j stations leave the slot c free for the next one. -/
def freeTo (ms : List Nat) (slots : List Int) (c : Int) : Nat → Bool
  | 0 => true
  | j + 1 => freeTo ms slots c j && !(slots.getD j 0 == c && (ms.getD j 0).testBit slots.length)
def planF (ms : List Nat) (cnt : Nat) : Nat → List Int → Option (List Int)
  | 0, slots => some slots
  | f + 1, slots => (List.range cnt).findSome? fun (c : Nat) => if freeTo ms slots (c : Int) slots.length then planF ms cnt f (slots ++ [(c : Int)]) else none
def candS (ms : List Nat) (cnt f : Nat) (slots : List Int) (c : Nat) : Option (List Int) := if freeTo ms slots (c : Int) slots.length then planF ms cnt f (slots ++ [(c : Int)]) else none
theorem planF_succ (ms : List Nat) (cnt f : Nat) (slots : List Int) : planF ms cnt (f + 1) slots = (List.range cnt).findSome? (candS ms cnt f slots) := rfl
theorem range_findSome_none {α : Type} {g : Nat → Option α} {n : Nat} (h : ∀ c, c < n → g c = none) : (List.range n).findSome? g = none := by
  rw [List.findSome?_eq_none_iff]
  intro x hx
  exact h x (List.mem_range.1 hx)
theorem range_findSome_some {α : Type} {g : Nat → Option α} {n k : Nat} {r : α} (hk : k < n) (hno : ∀ c, c < k → g c = none) (hr : g k = some r) : (List.range n).findSome? g = some r := by
  rw [List.findSome?_eq_some_iff]
  refine ⟨List.range k, k, (List.range (n - k - 1)).map (· + (k + 1)), ?_, hr, fun x hx => hno x (List.mem_range.1 hx)⟩
  have h1 : n = k + (1 + (n - k - 1)) := by omega
  conv => lhs; rw [h1]
  rw [List.range_add, List.range_add]
  simp [Function.comp_def]
  intro a _
  omega
theorem planF_len {ms : List Nat} {cnt : Nat} : ∀ (f : Nat) (slots r : List Int), planF ms cnt f slots = some r → r.length = slots.length + f := by
  intro f
  induction f with
  | zero => intro slots r h; injection h with h; rw [← h]; rfl
  | succ f ih =>
    intro slots r h
    rw [planF_succ] at h
    obtain ⟨_, c, _, _, hc, _⟩ := List.findSome?_eq_some_iff.1 h
    unfold candS at hc
    split at hc
    · have := ih _ _ hc
      simp at this; omega
    · cases hc
theorem freeTo_of (ms : List Nat) (slots : List Int) (c : Int) (h : ∀ j, slots.getD j 0 ≠ c ∨ slots.length ≤ j) : ∀ j, j ≤ slots.length → freeTo ms slots c j = true := by
  intro j
  induction j with
  | zero => intro _; rfl
  | succ j ih =>
    intro hj
    rw [freeTo, ih (by omega)]
    rcases h j with h1 | h1
    · have h2 : (slots.getD j 0 == c) = false := by simpa using h1
      rw [h2]; rfl
    · omega
theorem planF_isSome (ms : List Nat) (s : Nat) : ∀ (f : Nat) (L : Nat), L + f = s → (planF ms s f ((List.range L).map (fun (i : Nat) => (i : Int)))).isSome = true := by
  intro f
  induction f with
  | zero => intro L _; rfl
  | succ f ih =>
    intro L hL
    rw [planF_succ]
    rw [Option.isSome_iff_ne_none]
    intro h
    rw [List.findSome?_eq_none_iff] at h
    have h1 := h L (List.mem_range.2 (by omega))
    unfold candS at h1
    rw [freeTo_of] at h1
    · rw [if_pos rfl] at h1
      have h2 := ih (L + 1) (by omega)
      rw [List.range_succ, List.map_append, List.map_singleton, h1] at h2
      cases h2
    · intro j
      by_cases hj : j < L
      · left
        rw [List.getD_eq_getElem?_getD, List.getElem?_map, List.getElem?_range hj]
        simp; omega
      · right; simp; omega
    · exact Nat.le_refl _

theorem maskFold_lt : ∀ (ps : List (Int × Int)) (ms : List Nat), (∀ p ∈ ps, p.1.toNat < 8 ∧ p.2.toNat < 8) → (∀ m ∈ ms, m < 256) → ∀ m ∈ ps.foldl maskStep ms, m < 256 := by
  intro ps
  induction ps with
  | nil => intro ms _ hm; exact hm
  | cons p ps ih =>
    intro ms hp hm
    rw [List.foldl_cons]
    have h1 := hp p (List.mem_cons_self ..)
    refine ih _ (fun q hq => hp q (List.mem_cons_of_mem _ hq)) ?_
    exact orAt_lt (orAt_lt hm h1.2) h1.1
theorem maskS_lt {s : Nat} {ps : List (Int × Int)} (hp : ∀ p ∈ ps, p.1.toNat < 8 ∧ p.2.toNat < 8) : ∀ m ∈ maskS s ps, m < 256 :=
  maskFold_lt ps _ hp (fun m hm => by rw [List.eq_of_mem_replicate hm]; omega)

end Go.Sky
