/- Plain functions of chapter 9 (clocks): what the code computes. No program.
   Plain functions of chapter 9 (packing). No program.
   Plain functions of chapter 9 (checks). No program.
   Plain law: a burst of at most 16 bits changes the check. No program.
   The check, bit by bit, as a remainder of polynomials: plain words.
   Plain functions of chapter 9 (plans). No program.
   Blocks of a string: plain words. -/


namespace Go.Sky

/-- The first error that is not 0. -/
def firstE : List Int → Int
  | [] => 0
  | e :: l => if e = 0 then firstE l else e
/-- No error if the test holds. -/
def errU (c : Bool) (e : Int) : Int := if c then 0 else e
def inR (n lo hi : Int) : Bool := decide (lo ≤ n ∧ n ≤ hi)

structure Exch where
  s : Int
  t : Int
  r : Int

def tick (n : Int) : Bool := inR n 0 1000000000000
def exErr (x : Exch) : Int := firstE [errU (tick x.s && tick x.t && tick x.r) 2, errU (decide (x.s ≤ x.r)) 9]
def timeE (d t : Int) : Int := firstE [errU (inR d 0 1000) 2, errU (tick t) 2]
def upS (n b : Int) : Int := (n + b - 1) / b
def max3 (a b : Int) : Int := max 0 (max a b)
def offBy (x : Exch) (d t : Int) : Int × Int :=
  (x.t - x.r - upS (d * max3 (x.s - t) (t - x.r)) 1000, x.t - x.s + upS (d * max3 (x.s - t) (t - x.r)) 1000)

/-- A fold over the first k elements. -/
def foldTo {α β : Type} (f : β → α → β) (a : β) (xs : List α) (k : Nat) : β := (xs.take k).foldl f a
theorem foldTo_zero {α β : Type} (f : β → α → β) (a : β) (xs : List α) : foldTo f a xs 0 = a := rfl
theorem foldTo_step {α β : Type} (f : β → α → β) (a : β) (xs : List α) (k : Nat) (x : α) (h : xs[k]? = some x) : foldTo f a xs (k + 1) = f (foldTo f a xs k) x := by
  obtain ⟨hk, rfl⟩ := List.getElem?_eq_some_iff.1 h
  unfold foldTo
  rw [List.take_succ_eq_append_getElem hk, List.foldl_append]
  rfl
theorem foldTo_all {α β : Type} (f : β → α → β) (a : β) (xs : List α) (k : Nat) (h : xs.length ≤ k) : foldTo f a xs k = xs.foldl f a := by
  unfold foldTo; rw [List.take_of_length_le h]

/-- The common part of ranges. -/
def rCut (a r : Int × Int) : Int × Int := (max a.1 r.1, min a.2 r.2)
def comS (xs : List (Int × Int)) : Int × Int := xs.foldl rCut (xs.headD (0, 0))

/-- The error of exchanges, checked one by one. -/
def exsErr : List Exch → Int
  | [] => 0
  | x :: l => if exErr x = 0 then exsErr l else exErr x
def offE1 (l : List Exch) : Int := firstE [errU (decide (0 < l.length)) 10, errU (decide (((l.length : Nat) : Int) ≤ 20)) 8, exsErr l]
def offsErr (l : List Exch) (d t : Int) : Int := firstE [offE1 l, timeE d t]
def offAtS (l : List Exch) (d t : Int) : (Int × Int) × Int :=
  if offsErr l d t = 0 then
    if (comS (l.map (offBy · d t))).1 ≤ (comS (l.map (offBy · d t))).2 then (comS (l.map (offBy · d t)), 0) else ((0, 0), 13)
  else ((0, 0), offsErr l d t)

theorem exsErr_append (a b : List Exch) : exsErr (a ++ b) = if exsErr a = 0 then exsErr b else exsErr a := by
  induction a with
  | nil => simp [exsErr]
  | cons x a ih =>
    simp only [List.cons_append, exsErr]
    by_cases h : exErr x = 0 <;> simp [h, ih]
theorem exsErr_take (xs : List Exch) (k : Nat) (x : Exch) (h : xs[k]? = some x) (h0 : exsErr (xs.take k) = 0) : exsErr (xs.take (k + 1)) = exErr x := by
  obtain ⟨hk, rfl⟩ := List.getElem?_eq_some_iff.1 h
  rw [List.take_succ_eq_append_getElem hk, exsErr_append, if_pos h0]
  simp only [exsErr]
  by_cases h : exErr xs[k] = 0 <;> simp [h]
theorem exsErr_stop (xs : List Exch) (k : Nat) (h0 : exsErr (xs.take k) ≠ 0) : exsErr xs = exsErr (xs.take k) := by
  have := exsErr_append (xs.take k) (xs.drop k)
  rw [List.take_append_drop] at this
  rw [this, if_neg h0]
theorem exsErr_zero {xs : List Exch} (h : exsErr xs = 0) : ∀ x ∈ xs, exErr x = 0 := by
  induction xs with
  | nil => intro x hx; cases hx
  | cons y ys ih =>
    simp only [exsErr] at h
    by_cases hy : exErr y = 0
    · rw [if_pos hy] at h
      intro x hx
      rcases List.mem_cons.1 hx with rfl | hx
      · exact hy
      · exact ih h x hx
    · rw [if_neg hy] at h; exact absurd h hy
theorem firstE_cons (e : Int) (l : List Int) : firstE (e :: l) = if e = 0 then firstE l else e := rfl
theorem firstE_two (a b : Int) : firstE [a, b] = if a = 0 then b else a := by
  simp only [firstE]; by_cases h : b = 0 <;> simp [h]
theorem firstE_three (a b c : Int) : firstE [a, b, c] = if firstE [a, b] = 0 then c else firstE [a, b] := by
  simp only [firstE]
  by_cases ha : a = 0 <;> by_cases hb : b = 0 <;> by_cases hc : c = 0 <;> simp_all
theorem errU_zero {c : Bool} {e : Int} (he : e ≠ 0) : errU c e = 0 ↔ c = true := by cases c <;> simp [errU, he]
theorem exErr_zero {x : Exch} (h : exErr x = 0) : 0 ≤ x.s ∧ x.s ≤ x.r ∧ x.r ≤ 1000000000000 ∧ 0 ≤ x.t ∧ x.t ≤ 1000000000000 := by
  unfold exErr at h
  rw [firstE_two] at h
  by_cases h1 : errU (tick x.s && tick x.t && tick x.r) 2 = 0
  · rw [if_pos h1, errU_zero (by decide)] at h
    rw [errU_zero (by decide)] at h1
    simp [tick, inR] at h1 h
    omega
  · rw [if_neg h1] at h; exact absurd h h1
theorem timeE_zero {d t : Int} (h : timeE d t = 0) : 0 ≤ d ∧ d ≤ 1000 ∧ 0 ≤ t ∧ t ≤ 1000000000000 := by
  unfold timeE at h
  rw [firstE_two] at h
  by_cases h1 : errU (inR d 0 1000) 2 = 0
  · rw [if_pos h1, errU_zero (by decide)] at h
    rw [errU_zero (by decide)] at h1
    simp [tick, inR] at h1 h
    omega
  · rw [if_neg h1] at h; exact absurd h h1

theorem offsErr_zero {xs : List Exch} {d t : Int} {n : Nat} (hl : xs.length = n) (h : offsErr xs d t = 0) : exsErr xs = 0 ∧ timeE d t = 0 ∧ n ≤ 20 := by
  unfold offsErr at h
  rw [firstE_two] at h
  by_cases h1 : offE1 xs = 0
  · rw [if_pos h1] at h
    unfold offE1 at h1
    rw [firstE_three, firstE_two] at h1
    by_cases h2 : errU (decide (0 < xs.length)) 10 = 0
    · rw [if_pos h2] at h1
      by_cases h3 : errU (decide (((xs.length : Nat) : Int) ≤ 20)) 8 = 0
      · rw [if_pos h3] at h1
        rw [errU_zero (by decide)] at h3
        exact ⟨h1, h, by simp at h3; omega⟩
      · rw [if_neg h3] at h1; exact absurd h1 h3
    · rw [if_neg h2, if_neg h2] at h1; exact absurd h1 h2
  · rw [if_neg h1] at h; exact absurd h h1

theorem offsErr_pos {xs : List Exch} {d t : Int} {n : Nat} (hl : xs.length = n) (h : offsErr xs d t = 0) : 0 < n := by
  unfold offsErr at h
  rw [firstE_two] at h
  by_cases h1 : offE1 xs = 0
  · unfold offE1 at h1
    rw [firstE_three, firstE_two] at h1
    by_cases h2 : errU (decide (0 < xs.length)) 10 = 0
    · rw [errU_zero (by decide)] at h2
      simpa [hl] using h2
    · rw [if_neg h2, if_neg h2] at h1; exact absurd h1 h2
  · rw [if_neg h1] at h; exact absurd h h1

def offByS (x : Exch) (d t : Int) : (Int × Int) × Int := if firstE [exErr x, timeE d t] = 0 then (offBy x d t, 0) else ((0, 0), firstE [exErr x, timeE d t])
def trueAtS (l : List Exch) (d t : Int) : (Int × Int) × Int := if (offAtS l d t).2 = 0 then ((t + (offAtS l d t).1.1, t + (offAtS l d t).1.2), 0) else ((0, 0), (offAtS l d t).2)

end Go.Sky

namespace Go.Sky

/-- The last count raised by one. -/
def bump (l : List Int) : List Int := l.set (l.length - 1) (l.getD (l.length - 1) 0 + 1)
/-- The runs of the first k numbers. -/
def runsTo (xs : List Int) : Nat → List Int
  | 0 => []
  | k + 1 => if 0 < k ∧ xs[k - 1]? = xs[k]? then bump (runsTo xs k) else runsTo xs k ++ [xs.getD k 0, 1]
def runsS (xs : List Int) : List Int := runsTo xs xs.length

theorem bump_len (l : List Int) : (bump l).length = l.length := by simp [bump]
theorem runsTo_len (xs : List Int) (k : Nat) : (runsTo xs k).length ≤ 2 * k := by
  induction k with
  | zero => simp [runsTo]
  | succ k ih =>
    simp only [runsTo]
    split
    · rw [bump_len]; omega
    · simp; omega
theorem runsTo_pos (xs : List Int) (k : Nat) (hk : 0 < k) : 2 ≤ (runsTo xs k).length := by
  induction k with
  | zero => omega
  | succ k ih =>
    simp only [runsTo]
    split
    · rename_i h
      rw [bump_len]; exact ih h.1
    · simp
theorem runsTo_last (xs : List Int) (k : Nat) : 0 ≤ (runsTo xs k).getD ((runsTo xs k).length - 1) 0 ∧ (runsTo xs k).getD ((runsTo xs k).length - 1) 0 ≤ k := by
  induction k with
  | zero => simp [runsTo]
  | succ k ih =>
    simp only [runsTo]
    split
    · rename_i h
      have hp := runsTo_pos xs k h.1
      rw [bump_len]
      unfold bump
      rw [List.getD_eq_getElem?_getD, List.getElem?_set_self (by omega)]
      simp only [Option.getD_some]
      omega
    · rw [List.length_append]
      simp only [List.length_cons, List.length_nil, Nat.zero_add]
      rw [List.getD_eq_getElem?_getD, List.getElem?_append_right (by omega)]
      rw [show (runsTo xs k).length + (1 + 1) - 1 - (runsTo xs k).length = 1 by omega]
      simp only [List.getElem?_cons_succ, List.getElem?_cons_zero, Option.getD_some]
      omega

/-- The differences: of the numbers from index i + 1 on. -/
def diffFrom (xs : List Int) (i : Nat) : List Int := (List.range xs.length).map fun j => if i < j then xs.getD j 0 - xs.getD (j - 1) 0 else xs.getD j 0
def diffS (xs : List Int) : List Int := diffFrom xs 0
theorem diffFrom_len (xs : List Int) (i : Nat) : (diffFrom xs i).length = xs.length := by simp [diffFrom]
theorem diffS_len (xs : List Int) : (diffS xs).length = xs.length := diffFrom_len xs 0
theorem runsS_len (xs : List Int) : (runsS xs).length ≤ 2 * xs.length := runsTo_len xs xs.length
theorem diffFrom_all (xs : List Int) (i : Nat) (h : xs.length ≤ i + 1) : diffFrom xs i = xs := by
  apply List.ext_getElem?
  intro j
  unfold diffFrom
  by_cases hj : j < xs.length
  · rw [List.getElem?_map, List.getElem?_range hj]
    simp only [Option.map_some]
    rw [if_neg (by omega), List.getD_eq_getElem?_getD, List.getElem?_eq_getElem hj]
    rfl
  · rw [List.getElem?_eq_none (by simp; omega), List.getElem?_eq_none (by omega)]
theorem diffFrom_at (xs : List Int) (i j : Nat) (hj : j < xs.length) : (diffFrom xs i)[j]? = some (if i < j then xs.getD j 0 - xs.getD (j - 1) 0 else xs.getD j 0) := by
  unfold diffFrom
  rw [List.getElem?_map, List.getElem?_range hj]
  rfl
theorem diffFrom_set (xs : List Int) (i : Nat) (_hi : i + 1 < xs.length) : (diffFrom xs (i + 1)).set (i + 1) (xs.getD (i + 1) 0 - xs.getD i 0) = diffFrom xs i := by
  apply List.ext_getElem?
  intro j
  by_cases hj : j < xs.length
  · rw [diffFrom_at xs i j hj]
    by_cases hij : i + 1 = j
    · subst hij
      rw [List.getElem?_set_self (by rw [diffFrom_len]; exact hj), if_pos (by omega)]
      rfl
    · rw [List.getElem?_set_ne hij, diffFrom_at xs (i + 1) j hj]
      by_cases h1 : i < j
      · rw [if_pos h1, if_pos (by omega)]
      · rw [if_neg h1, if_neg (by omega)]
  · rw [List.getElem?_eq_none (by simp [diffFrom_len]; omega), List.getElem?_eq_none (by rw [diffFrom_len]; omega)]

/-- The way and the numbers of a packed series. -/
def packWay (xs : List Int) : Int :=
  let d := (runsS (diffS xs)).length
  let r := (runsS xs).length
  if d < xs.length then (if r < d then 2 else 1) else (if r < xs.length then 2 else 0)
def packNums (xs : List Int) : List Int :=
  let d := (runsS (diffS xs)).length
  let r := (runsS xs).length
  if d < xs.length then (if r < d then runsS xs else runsS (diffS xs)) else (if r < xs.length then runsS xs else xs)

theorem pack_of {xs : List Int} {n m4 m5 : Nat} (hl : xs.length = n) (h4 : (runsS (diffS xs)).length = m4) (h5 : (runsS xs).length = m5) :
    packWay xs = (if m4 < n then (if m5 < m4 then 2 else 1) else (if m5 < n then 2 else 0)) ∧
    packNums xs = (if m4 < n then (if m5 < m4 then runsS xs else runsS (diffS xs)) else (if m5 < n then runsS xs else xs)) := by
  unfold packWay packNums
  rw [hl, h4, h5]
  exact ⟨rfl, rfl⟩

end Go.Sky

namespace Go.Sky

/-- One step of the remainder: a bit shifted out. -/
def crcBit (r : Nat) : Nat := if 65535 < r * 2 then (r * 2) ^^^ 69665 else r * 2
def crcBits (r : Nat) : Nat → Nat
  | 0 => r
  | k + 1 => crcBit (crcBits r k)
def crcByte (r : Nat) (c : UInt8) : Nat := crcBits (r ^^^ (c.toNat * 256)) 8
def crcS (s : List UInt8) : Nat := s.foldl crcByte 65535

theorem crcBit_lt {r : Nat} (h : r < 65536) : crcBit r < 65536 := by
  unfold crcBit
  split
  · rename_i h1
    have hx : (r * 2) ^^^ 69665 < 2 ^ 17 := Nat.xor_lt_two_pow (by omega) (by omega)
    have ht : Nat.testBit ((r * 2) ^^^ 69665) 16 = false := by
      rw [Nat.testBit_xor]
      have h2 : Nat.testBit (r * 2) 16 = true := by
        rw [Nat.testBit_eq_decide_div_mod_eq]
        simp; omega
      rw [h2]; decide
    rw [Nat.testBit_eq_decide_div_mod_eq] at ht
    simp at ht
    omega
  · omega
theorem crcBits_lt {r : Nat} (h : r < 65536) (k : Nat) : crcBits r k < 65536 := by
  induction k with
  | zero => exact h
  | succ k ih => exact crcBit_lt ih
theorem crcByte_lt {r : Nat} (h : r < 65536) (c : UInt8) : crcByte r c < 65536 := by
  have hx : r ^^^ (c.toNat * 256) < 65536 := by
    have h1 : r < 2 ^ 16 := h
    have h2 : c.toNat * 256 < 2 ^ 16 := by have := c.toNat_lt; omega
    exact Nat.xor_lt_two_pow h1 h2
  unfold crcByte
  generalize r ^^^ (c.toNat * 256) = q at hx
  exact crcBits_lt hx 8
theorem crcFold_lt (s : List UInt8) : ∀ r, r < 65536 → s.foldl crcByte r < 65536 := by
  induction s with
  | nil => intro r h; simpa using h
  | cons c s ih =>
    intro r h
    rw [List.foldl_cons]
    have h2 := crcByte_lt h c
    generalize crcByte r c = q at h2
    exact ih q h2
theorem crcS_lt (s : List UInt8) : crcS s < 65536 := by unfold crcS; exact crcFold_lt s 65535 (by omega)

end Go.Sky

namespace Go.Sky

theorem xor_two (a b : Nat) : (a ^^^ b) * 2 = (a * 2) ^^^ (b * 2) := by
  have h := Nat.shiftLeft_xor_distrib (a := a) (b := b) (i := 1)
  rw [Nat.shiftLeft_eq, Nat.shiftLeft_eq, Nat.shiftLeft_eq] at h
  simpa using h

theorem big_bit {r : Nat} (h : r < 65536) : (65535 < r * 2) ↔ r.testBit 15 = true := by
  rw [Nat.testBit_eq_decide_div_mod_eq]
  simp
  omega

theorem crcBit_eq {r : Nat} (h : r < 65536) : crcBit r = (r * 2) ^^^ (if r.testBit 15 = true then 69665 else 0) := by
  unfold crcBit
  by_cases hb : 65535 < r * 2
  · rw [if_pos hb, if_pos ((big_bit h).mp hb)]
  · rw [if_neg hb, if_neg (fun h2 => hb ((big_bit h).mpr h2)), Nat.xor_zero]

theorem crcBit_xor {a b : Nat} (ha : a < 65536) (hb : b < 65536) : crcBit (a ^^^ b) = crcBit a ^^^ crcBit b := by
  have hx : a ^^^ b < 65536 := Nat.xor_lt_two_pow (n := 16) ha hb
  rw [crcBit_eq ha, crcBit_eq hb, crcBit_eq hx, xor_two, Nat.testBit_xor]
  generalize a * 2 = A
  generalize b * 2 = B
  cases a.testBit 15 <;> cases b.testBit 15
  · simp
  · simp [Nat.xor_assoc]
  · simp only [Bool.xor_false, if_true, Bool.false_eq_true, if_false, Nat.xor_zero]
    rw [Nat.xor_assoc, Nat.xor_comm B, ← Nat.xor_assoc]
  · simp only [Bool.xor_self, if_true, Bool.false_eq_true, if_false, Nat.xor_zero]
    rw [show A ^^^ 69665 ^^^ (B ^^^ 69665) = A ^^^ B ^^^ (69665 ^^^ 69665) by
      rw [Nat.xor_assoc, Nat.xor_assoc, Nat.xor_comm B, ← Nat.xor_assoc 69665, Nat.xor_self, Nat.zero_xor]; simp]
    simp

theorem crcBits_xor {a b : Nat} (ha : a < 65536) (hb : b < 65536) (k : Nat) : crcBits (a ^^^ b) k = crcBits a k ^^^ crcBits b k := by
  induction k with
  | zero => rfl
  | succ k ih =>
    show crcBit (crcBits (a ^^^ b) k) = crcBit (crcBits a k) ^^^ crcBit (crcBits b k)
    rw [ih]
    exact crcBit_xor (crcBits_lt ha k) (crcBits_lt hb k)

theorem crcBits_add (a j k : Nat) : crcBits a (j + k) = crcBits (crcBits a j) k := by
  induction k with
  | zero => rfl
  | succ k ih =>
    show crcBit (crcBits a (j + k)) = crcBit (crcBits (crcBits a j) k)
    rw [ih]

theorem crcByte_xor {r d : Nat} (hr : r < 65536) (hd : d < 65536) (c : UInt8) : crcByte (r ^^^ d) c = crcByte r c ^^^ crcBits d 8 := by
  unfold crcByte
  have h2 : c.toNat * 256 < 65536 := by have := c.toNat_lt; omega
  have hx : r ^^^ (c.toNat * 256) < 65536 := by
    have g1 : r < 2 ^ 16 := hr
    have g2 : c.toNat * 256 < 2 ^ 16 := by omega
    exact Nat.xor_lt_two_pow g1 g2
  rw [show (r ^^^ d) ^^^ (c.toNat * 256) = (r ^^^ (c.toNat * 256)) ^^^ d by
    rw [Nat.xor_assoc, Nat.xor_comm d, ← Nat.xor_assoc]]
  exact crcBits_xor hx hd 8

theorem xor_mul256 (a b : Nat) : (a ^^^ b) * 256 = (a * 256) ^^^ (b * 256) := by
  have h := Nat.shiftLeft_xor_distrib (a := a) (b := b) (i := 8)
  rw [Nat.shiftLeft_eq, Nat.shiftLeft_eq, Nat.shiftLeft_eq] at h
  simpa using h

theorem byte256 (c : UInt8) : c.toNat * 256 < 65536 := by have := c.toNat_lt; omega
theorem xor16 {a b : Nat} (ha : a < 65536) (hb : b < 65536) : a ^^^ b < 65536 := by
  have g1 : a < 2 ^ 16 := by omega
  have g2 : b < 2 ^ 16 := by omega
  have g3 := Nat.xor_lt_two_pow g1 g2
  omega
theorem crcByte_flip {r : Nat} (hr : r < 65536) (c d : UInt8) : crcByte r (c ^^^ d) = crcByte r c ^^^ crcBits (d.toNat * 256) 8 := by
  unfold crcByte
  have h2 : d.toNat * 256 < 65536 := byte256 d
  have hx : r ^^^ (c.toNat * 256) < 65536 := xor16 hr (byte256 c)
  rw [UInt8.toNat_xor, xor_mul256, ← Nat.xor_assoc]
  exact crcBits_xor hx h2 8

theorem crcFold_xor (s : List UInt8) : ∀ (r d : Nat), r < 65536 → d < 65536 →
    s.foldl crcByte (r ^^^ d) = s.foldl crcByte r ^^^ crcBits d (8 * s.length) := by
  induction s with
  | nil => intro r d _ _; rfl
  | cons c s ih =>
    intro r d hr hd
    rw [List.foldl_cons, List.foldl_cons, crcByte_xor hr hd c]
    have h1 := crcByte_lt hr c
    have h2 := crcBits_lt hd 8
    rw [ih _ _ h1 h2, ← crcBits_add]
    rw [show 8 + 8 * s.length = 8 * (c :: s).length by simp; omega]

theorem crcS_flip (s : List UInt8) (i : Nat) (c d : UInt8) (hi : s[i]? = some c) :
    crcS (s.set i (c ^^^ d)) = crcS s ^^^ crcBits (d.toNat * 256) (8 + 8 * (s.length - 1 - i)) := by
  obtain ⟨hlt, hc⟩ := List.getElem?_eq_some_iff.mp hi
  have e1 : s = s.take i ++ c :: s.drop (i + 1) := by
    rw [← hc, List.getElem_cons_drop, List.take_append_drop]
  have e2 : s.set i (c ^^^ d) = s.take i ++ (c ^^^ d) :: s.drop (i + 1) := by
    rw [List.set_eq_take_append_cons_drop, if_pos hlt]
  have h0 : (s.take i).foldl crcByte 65535 < 65536 := crcFold_lt _ _ (by omega)
  have hd : d.toNat * 256 < 65536 := by have := d.toNat_lt; omega
  have hlen : (s.drop (i + 1)).length = s.length - 1 - i := by rw [List.length_drop]; omega
  rw [e2]
  conv => rhs; rw [show crcS s = crcS (s.take i ++ c :: s.drop (i + 1)) by rw [← e1]]
  unfold crcS
  rw [List.foldl_append, List.foldl_append, List.foldl_cons, List.foldl_cons]
  generalize (s.take i).foldl crcByte 65535 = r at h0
  rw [crcByte_flip h0, crcFold_xor _ _ _ (crcByte_lt h0 c) (crcBits_lt hd 8), ← crcBits_add, hlen]

theorem crcBits_pow (k : Nat) : ∀ (m : Nat), m + k ≤ 15 → crcBits (2 ^ m) k = 2 ^ (m + k) := by
  induction k with
  | zero => intro m _; rfl
  | succ k ih =>
    intro m h
    show crcBit (crcBits (2 ^ m) k) = _
    rw [ih m (by omega)]
    have hp : 2 ^ (m + k) ≤ 2 ^ 14 := Nat.pow_le_pow_right (by omega) (by omega)
    have e : 2 ^ (m + (k + 1)) = 2 ^ (m + k) * 2 := by rw [← Nat.add_assoc, Nat.pow_succ]
    rw [e]
    unfold crcBit
    rw [if_neg (by have : (2:Nat) ^ 14 = 16384 := rfl; omega)]

theorem crcBit_zero {r : Nat} (h : crcBit r = 0) : r = 0 := by
  unfold crcBit at h
  split at h
  · exfalso
    have h1 : ((r * 2) ^^^ 69665).testBit 0 = true := by
      rw [Nat.testBit_xor]
      have : (r * 2).testBit 0 = false := by rw [Nat.testBit_zero]; simp
      rw [this]; decide
    rw [h] at h1
    simp at h1
  · omega
theorem crcBits_zero {r : Nat} : ∀ (k : Nat), crcBits r k = 0 → r = 0 := by
  intro k
  induction k with
  | zero => intro h; exact h
  | succ k ih => intro h; exact ih (crcBit_zero h)

/-- The bits of the burst so far, as a number. -/
def burstV (p : Nat) : Nat → Nat
  | 0 => 0
  | k + 1 => burstV p k ^^^ (if p.testBit k then 2 ^ (15 - k) else 0)
theorem burstV_lt (p : Nat) (k : Nat) : burstV p k < 65536 := by
  induction k with
  | zero => show 0 < 65536; omega
  | succ k ih =>
    show burstV p k ^^^ _ < 65536
    refine Nat.xor_lt_two_pow (n := 16) ih ?_
    split
    · exact Nat.pow_lt_pow_right (by omega) (by omega)
    · omega
theorem burstV_bit (p : Nat) : ∀ (k : Nat), k ≤ 16 → ∀ j, j < 16 → (burstV p k).testBit (15 - j) = (decide (j < k) && p.testBit j) := by
  intro k
  induction k with
  | zero => intro _ j _; show Nat.testBit 0 _ = _; simp
  | succ k ih =>
    intro hk j hj
    show Nat.testBit (burstV p k ^^^ _) _ = _
    rw [Nat.testBit_xor, ih (by omega) j hj]
    by_cases he : j = k
    · subst he
      cases hb : p.testBit j <;> simp [Nat.testBit_two_pow_self]
    · have hne : (2 ^ (15 - k)).testBit (15 - j) = false := by
        rw [Nat.testBit_two_pow]; simp; omega
      have hd : decide (j < k + 1) = decide (j < k) := by
        by_cases h : j < k
        · simp [h]; omega
        · simp [h]; omega
      rw [hd]
      split
      · rw [hne]; simp
      · simp
theorem burstV_ne {p : Nat} (hp : p ≠ 0) (hp2 : p < 65536) : burstV p 16 ≠ 0 := by
  intro h
  apply hp
  apply Nat.eq_of_testBit_eq
  intro j
  rw [Nat.zero_testBit]
  by_cases hj : j < 16
  · have := burstV_bit p 16 (by omega) j hj
    rw [h] at this
    simp [hj] at this
    exact this
  · exact Nat.testBit_lt_two_pow (Nat.lt_of_lt_of_le hp2 (show 2 ^ 16 ≤ 2 ^ j from Nat.pow_le_pow_right (by omega) (by omega)))

/-- The byte with one bit, as the law writes it. -/
def flipBit (x : Nat) : UInt8 := UInt8.ofNat (2 ^ (7 - x % 8))
theorem flipBit_toNat (x : Nat) : (flipBit x).toNat = 2 ^ (7 - x % 8) := by
  unfold flipBit
  rw [UInt8.toNat_ofNat']
  have h : 2 ^ (7 - x % 8) ≤ 2 ^ 7 := Nat.pow_le_pow_right (by omega) (by omega)
  generalize 2 ^ (7 - x % 8) = t at *
  omega

/-- One round of the law's loop. -/
def flip1 (p a : Nat) (l : List UInt8) (k : Nat) : List UInt8 :=
  if p.testBit k then l.set ((a + k) / 8) (l.getD ((a + k) / 8) 0 ^^^ flipBit (a + k)) else l
def flips (p a : Nat) (l : List UInt8) : Nat → List UInt8
  | 0 => l
  | k + 1 => flip1 p a (flips p a l k) k
theorem flips_length (p a : Nat) (l : List UInt8) (k : Nat) : (flips p a l k).length = l.length := by
  induction k with
  | zero => rfl
  | succ k ih =>
    show (flip1 p a (flips p a l k) k).length = _
    unfold flip1
    split
    · rw [List.length_set, ih]
    · exact ih

theorem flips_crc (p a : Nat) (l : List UInt8) (ha : a + 16 ≤ 8 * l.length) : ∀ k, k ≤ 16 →
    crcS (flips p a l k) = crcS l ^^^ crcBits (burstV p k) (8 * l.length - a) := by
  intro k
  induction k with
  | zero =>
    intro _
    show crcS l = crcS l ^^^ crcBits 0 _
    have : ∀ n, crcBits 0 n = 0 := by
      intro n
      induction n with
      | zero => rfl
      | succ n ih => show crcBit (crcBits 0 n) = 0; rw [ih]; rfl
    rw [this, Nat.xor_zero]
  | succ k ih =>
    intro hk
    show crcS (flip1 p a (flips p a l k) k) = _
    unfold flip1
    rw [show burstV p (k + 1) = burstV p k ^^^ (if p.testBit k then 2 ^ (15 - k) else 0) from rfl]
    split
    · have hlen := flips_length p a l k
      have hi : (a + k) / 8 < (flips p a l k).length := by rw [hlen]; omega
      have hget : (flips p a l k)[(a + k) / 8]? = some ((flips p a l k).getD ((a + k) / 8) 0) := by
        rw [List.getD_eq_getElem?_getD, List.getElem?_eq_getElem hi]; rfl
      rw [crcS_flip _ _ _ _ hget, ih (by omega), flipBit_toNat, hlen]
      have hpw : 2 ^ (15 - k) < 65536 := Nat.pow_lt_pow_right (a := 2) (n := 16) (by omega) (by omega)
      rw [crcBits_xor (burstV_lt p k) hpw, ← Nat.xor_assoc]
      congr 1
      have e1 : 2 ^ (7 - (a + k) % 8) * 256 = crcBits 1 (15 - (a + k) % 8) := by
        rw [show (1 : Nat) = 2 ^ 0 from rfl, crcBits_pow _ 0 (by omega), show (256 : Nat) = 2 ^ 8 from rfl, ← Nat.pow_add]
        congr 1
        omega
      have e2 : 2 ^ (15 - k) = crcBits 1 (15 - k) := by
        rw [show (1 : Nat) = 2 ^ 0 from rfl, crcBits_pow _ 0 (by omega)]
        congr 1
        omega
      rw [e1, e2, ← crcBits_add, ← crcBits_add]
      congr 1
      omega
    · rw [Nat.xor_zero]
      exact ih (by omega)

theorem burst_law (p a : Nat) (l : List UInt8) (ha : a + 16 ≤ 8 * l.length) (hp : p ≠ 0) (hp2 : p < 65536) : crcS l ≠ crcS (flips p a l 16) := by
  intro h
  rw [flips_crc p a l ha 16 (by omega)] at h
  have h0 : crcBits (burstV p 16) (8 * l.length - a) = 0 := by
    have h1 : crcS l ^^^ crcS l = crcS l ^^^ (crcS l ^^^ crcBits (burstV p 16) (8 * l.length - a)) := by rw [← h]
    rw [← Nat.xor_assoc, Nat.xor_self, Nat.zero_xor] at h1
    exact h1.symm
  exact burstV_ne hp hp2 (crcBits_zero _ h0)

end Go.Sky

namespace Go.Sky

def byteBits (c : UInt8) : List Bool := [c.toNat.testBit 7, c.toNat.testBit 6, c.toNat.testBit 5, c.toNat.testBit 4, c.toNat.testBit 3, c.toNat.testBit 2, c.toNat.testBit 1, c.toNat.testBit 0]
def msgBits (s : List UInt8) : List Bool := s.flatMap byteBits
def flipAt (xs : List Bool) (i : Nat) : List Bool := xs.modify i not
def flipN (xs : List Bool) : Nat → List Bool
  | 0 => xs
  | k + 1 => flipAt (flipN xs k) k
def inPoly (k : Nat) : Bool := decide (k = 0) || decide (k = 4) || decide (k = 11) || decide (k = 16)
def poly (xs : List Bool) (i : Nat) : Nat → List Bool
  | 0 => xs
  | k + 1 => if inPoly k then flipAt (poly xs i k) (i + k) else poly xs i k
def redStep (xs : List Bool) (i : Nat) : List Bool := if xs[i]? = some true then poly xs i 17 else xs
def red (xs : List Bool) : Nat → List Bool
  | 0 => xs
  | i + 1 => redStep (red xs i) i
def numB (l : List Bool) : Nat := l.foldl (fun n b => 2 * n + b.toNat) 0
def refCrc (s : List UInt8) : Nat := numB ((red (flipN (msgBits s ++ List.replicate 16 false) 16) (8 * s.length)).drop (8 * s.length))

/-! ### The window -/
def bin16 (w : Nat) : List Bool := [w.testBit 15, w.testBit 14, w.testBit 13, w.testBit 12, w.testBit 11, w.testBit 10, w.testBit 9, w.testBit 8, w.testBit 7, w.testBit 6, w.testBit 5, w.testBit 4, w.testBit 3, w.testBit 2, w.testBit 1, w.testBit 0]
def aug (w : Nat) (l : List Bool) : Nat := l.foldl (fun w b => crcBit w ^^^ b.toNat) w

theorem flipAt_app (p l : List Bool) (k : Nat) : flipAt (p ++ l) (p.length + k) = p ++ flipAt l k := by
  induction p with
  | nil => simp
  | cons x p ih => simp only [List.cons_append, List.length_cons, flipAt] at *; rw [show p.length + 1 + k = p.length + k + 1 by omega, List.modify_succ_cons, ih]
theorem poly_app (p l : List Bool) : ∀ k, poly (p ++ l) p.length k = p ++ poly l 0 k
  | 0 => rfl
  | k + 1 => by
    rw [poly, poly, poly_app p l k]
    split
    · rw [flipAt_app, Nat.zero_add]
    · rfl
theorem poly17 (x0 x1 x2 x3 x4 x5 x6 x7 x8 x9 xa xb xc xd xe xf y : Bool) (r : List Bool) :
    poly (x0 :: x1 :: x2 :: x3 :: x4 :: x5 :: x6 :: x7 :: x8 :: x9 :: xa :: xb :: xc :: xd :: xe :: xf :: y :: r) 0 17 = (!x0) :: x1 :: x2 :: x3 :: (!x4) :: x5 :: x6 :: x7 :: x8 :: x9 :: xa :: (!xb) :: xc :: xd :: xe :: xf :: (!y) :: r := by
  simp [poly, inPoly, flipAt, List.modify_succ_cons, List.modify_zero_cons]

theorem bit_two (w j : Nat) : (w * 2).testBit (j + 1) = w.testBit j := by
  rw [Nat.mul_comm, show (2 : Nat) * w = 2 ^ 1 * w by simp, Nat.testBit_two_pow_mul]
  simp
theorem bit_two0 (w : Nat) : (w * 2).testBit 0 = false := by
  rw [Nat.testBit_zero]; simp
theorem bit_b (b : Bool) (j : Nat) : b.toNat.testBit (j + 1) = false := by cases b <;> simp [Nat.testBit_succ]
theorem bit_b0 (b : Bool) : b.toNat.testBit 0 = b := by cases b <;> rfl

theorem bin_step {w : Nat} (hw : w < 65536) (b : Bool) (r : List Bool) (p : List Bool) (hp : p = List.replicate p.length false) :
    redStep (p ++ (bin16 w ++ b :: r)) p.length = List.replicate (p.length + 1) false ++ (bin16 (crcBit w ^^^ b.toNat) ++ r) := by
  have hq : (p ++ (bin16 w ++ b :: r))[p.length]? = some (w.testBit 15) := by
    rw [List.getElem?_append_right (Nat.le_refl _), Nat.sub_self]; rfl
  have hrep : List.replicate (p.length + 1) false = p ++ [false] := by rw [List.replicate_succ', ← hp]
  rw [redStep, hq, hrep, crcBit_eq hw]
  cases ht : w.testBit 15
  · rw [if_neg (by simp), List.append_assoc]
    congr 1
    simp only [bin16, Nat.testBit_xor, bit_two, bit_two0, bit_b, bit_b0, ht, Bool.false_eq_true, if_false, Nat.zero_testBit, Bool.xor_false, Bool.false_xor, List.cons_append, List.nil_append]
  · rw [if_pos rfl, poly_app, List.append_assoc]
    congr 1
    simp only [bin16, List.cons_append, List.nil_append, poly17, ht, if_true, Nat.testBit_xor, bit_two, bit_two0, bit_b, bit_b0, Bool.xor_false, Bool.false_xor]
    have h0 : Nat.testBit 69665 15 = false := by decide
    have h1 : Nat.testBit 69665 14 = false := by decide
    have h2 : Nat.testBit 69665 13 = false := by decide
    have h3 : Nat.testBit 69665 12 = true := by decide
    have h4 : Nat.testBit 69665 11 = false := by decide
    have h5 : Nat.testBit 69665 10 = false := by decide
    have h6 : Nat.testBit 69665 9 = false := by decide
    have h7 : Nat.testBit 69665 8 = false := by decide
    have h8 : Nat.testBit 69665 7 = false := by decide
    have h9 : Nat.testBit 69665 6 = false := by decide
    have ha : Nat.testBit 69665 5 = true := by decide
    have hb : Nat.testBit 69665 4 = false := by decide
    have hc : Nat.testBit 69665 3 = false := by decide
    have hd : Nat.testBit 69665 2 = false := by decide
    have he : Nat.testBit 69665 1 = false := by decide
    have hf : Nat.testBit 69665 0 = true := by decide
    simp only [h0, h1, h2, h3, h4, h5, h6, h7, h8, h9, ha, hb, hc, hd, he, hf, Bool.xor_false, Bool.xor_true, Bool.not_true, Bool.true_xor]

theorem aug_lt {w : Nat} (hw : w < 65536) (b : Bool) : crcBit w ^^^ b.toNat < 65536 := by
  refine Nat.xor_lt_two_pow (n := 16) (crcBit_lt hw) ?_
  cases b <;> decide
theorem red_app (X : List Bool) (i : Nat) : ∀ k, red X (i + k) = (List.range' i k).foldl (fun xs j => redStep xs j) (red X i)
  | 0 => rfl
  | k + 1 => by
    rw [← Nat.add_assoc, red, red_app X i k, List.range'_1_concat, List.foldl_append]
    rfl
theorem red_window : ∀ (l : List Bool) (w : Nat) (X : List Bool) (i : Nat), w < 65536 → red X i = List.replicate i false ++ (bin16 w ++ l) → red X (i + l.length) = List.replicate (i + l.length) false ++ bin16 (aug w l)
  | [], w, X, i, _, h => by simpa [aug] using h
  | b :: l, w, X, i, hw, h => by
    have hs : red X (i + 1) = List.replicate (i + 1) false ++ (bin16 (crcBit w ^^^ b.toNat) ++ l) := by
      rw [red, h]
      have := bin_step hw b l (List.replicate i false) (by simp)
      simpa using this
    have := red_window l (crcBit w ^^^ b.toNat) X (i + 1) (aug_lt hw b) hs
    rw [List.length_cons, show i + (l.length + 1) = i + 1 + l.length by omega, this]
    rfl

/-! ### Numbers -/
def numF (n : Nat) (l : List Bool) : Nat := l.foldl (fun n b => 2 * n + b.toNat) n
theorem numF_ge : ∀ (l : List Bool) (n : Nat), n ≤ numF n l
  | [], n => Nat.le_refl _
  | b :: l, n => by
    have := numF_ge l (2 * n + b.toNat)
    show n ≤ numF (2 * n + b.toNat) l
    omega
theorem two_xor (n : Nat) (b : Bool) : n * 2 ^^^ b.toNat = 2 * n + b.toNat := by
  cases b
  · simp [Nat.mul_comm]
  · rw [show (true.toNat) = 1 from rfl]
    apply Nat.eq_of_testBit_eq
    intro j
    cases j with
    | zero => rw [Nat.testBit_xor, bit_two0, Nat.testBit_zero, Nat.testBit_zero]; simp
    | succ j =>
      rw [Nat.testBit_xor, bit_two, Nat.testBit_succ, Nat.testBit_succ]
      simp
      rw [show (2 * n + 1) / 2 = n by omega]
theorem aug_num : ∀ (l : List Bool) (q n : Nat), q < 65536 → numF n l < 65536 → aug (q ^^^ n) l = crcBits q l.length ^^^ numF n l
  | [], q, n, _, _ => rfl
  | b :: l, q, n, hq, hn => by
    have h1 : numF n (b :: l) = numF (2 * n + b.toNat) l := rfl
    rw [h1] at hn ⊢
    have h2 := numF_ge l (2 * n + b.toNat)
    have hn2 : n < 65536 := by omega
    have hc : crcBit n = n * 2 := by unfold crcBit; rw [if_neg (by omega)]
    show aug (crcBit (q ^^^ n) ^^^ b.toNat) l = _
    rw [crcBit_xor hq hn2, hc, Nat.xor_assoc, two_xor, aug_num l (crcBit q) _ (crcBit_lt hq) hn, List.length_cons, show l.length + 1 = 1 + l.length by omega, crcBits_add]
    rfl
theorem numF_app (n : Nat) (l m : List Bool) : numF n (l ++ m) = numF (numF n l) m := by simp [numF]
theorem numF_lt : ∀ (l : List Bool) (n k : Nat), n < 2 ^ k → numF n l < 2 ^ (k + l.length)
  | [], n, k, h => h
  | b :: l, n, k, h => by
    have hb : b.toNat ≤ 1 := by cases b <;> decide
    have := numF_lt l (2 * n + b.toNat) (k + 1) (by rw [Nat.pow_succ]; omega)
    rw [List.length_cons, show k + (l.length + 1) = k + 1 + l.length by omega]
    exact this
theorem numF_add : ∀ (l : List Bool) (n : Nat), numF n l = n * 2 ^ l.length + numF 0 l
  | [], n => by simp [numF]
  | b :: l, n => by
    show numF (2 * n + b.toNat) l = n * 2 ^ (l.length + 1) + numF (2 * 0 + b.toNat) l
    rw [numF_add l (2 * n + b.toNat), numF_add l (2 * 0 + b.toNat), Nat.pow_succ, Nat.add_mul, Nat.add_mul]
    have : 2 * n * 2 ^ l.length = n * (2 ^ l.length * 2) := by rw [Nat.mul_comm (2 ^ l.length), ← Nat.mul_assoc, Nat.mul_comm n 2]
    omega
set_option maxRecDepth 100000 in
theorem num_byte (c : UInt8) : numF 0 (byteBits c) = c.toNat := by
  have h : ∀ n : Nat, n < 256 → numF 0 [n.testBit 7, n.testBit 6, n.testBit 5, n.testBit 4, n.testBit 3, n.testBit 2, n.testBit 1, n.testBit 0] = n := by decide
  exact h c.toNat c.toNat_lt
set_option maxRecDepth 100000 in
theorem num_bin {w : Nat} (hw : w < 65536) : numB (bin16 w) = w := by
  have hb : ∀ n : Nat, n < 256 → numF 0 [n.testBit 7, n.testBit 6, n.testBit 5, n.testBit 4, n.testBit 3, n.testBit 2, n.testBit 1, n.testBit 0] = n := by decide
  have h1 := hb (w / 256) (by omega)
  have h2 := hb (w % 256) (by omega)
  have e : bin16 w = [(w / 256).testBit 7, (w / 256).testBit 6, (w / 256).testBit 5, (w / 256).testBit 4, (w / 256).testBit 3, (w / 256).testBit 2, (w / 256).testBit 1, (w / 256).testBit 0] ++ [(w % 256).testBit 7, (w % 256).testBit 6, (w % 256).testBit 5, (w % 256).testBit 4, (w % 256).testBit 3, (w % 256).testBit 2, (w % 256).testBit 1, (w % 256).testBit 0] := by
    have d : ∀ j, (w / 256).testBit j = w.testBit (j + 8) := fun j => by rw [show (256 : Nat) = 2 ^ 8 from rfl, Nat.testBit_div_two_pow]
    have m : ∀ j, j < 8 → (w % 256).testBit j = w.testBit j := fun j hj => by rw [show (256 : Nat) = 2 ^ 8 from rfl, Nat.testBit_mod_two_pow]; simp [hj]
    rw [d, d, d, d, d, d, d, d, m _ (by omega), m _ (by omega), m _ (by omega), m _ (by omega), m _ (by omega), m _ (by omega), m _ (by omega), m _ (by omega)]
    rfl
  show numF 0 (bin16 w) = w
  rw [e, numF_app, h1, numF_add, h2]
  show w / 256 * 256 + w % 256 = w
  omega
set_option maxRecDepth 100000 in
theorem bin_num : ∀ l : List Bool, l.length = 16 → bin16 (numF 0 l) = l := by
  intro l hl
  match l, hl with
  | [x0, x1, x2, x3, x4, x5, x6, x7, x8, x9, xa, xb, xc, xd, xe, xf], _ =>
    have hb : ∀ y0 y1 y2 y3 y4 y5 y6 y7 : Bool, ∀ n, n = numF 0 [y0, y1, y2, y3, y4, y5, y6, y7] → n < 256 ∧ [n.testBit 7, n.testBit 6, n.testBit 5, n.testBit 4, n.testBit 3, n.testBit 2, n.testBit 1, n.testBit 0] = [y0, y1, y2, y3, y4, y5, y6, y7] := by
      intro y0 y1 y2 y3 y4 y5 y6 y7 n hn
      subst hn
      revert y0 y1 y2 y3 y4 y5 y6 y7
      decide
    obtain ⟨l1, e1⟩ := hb x0 x1 x2 x3 x4 x5 x6 x7 _ rfl
    obtain ⟨l2, e2⟩ := hb x8 x9 xa xb xc xd xe xf _ rfl
    have e : numF 0 [x0, x1, x2, x3, x4, x5, x6, x7, x8, x9, xa, xb, xc, xd, xe, xf] = numF 0 [x0, x1, x2, x3, x4, x5, x6, x7] * 256 + numF 0 [x8, x9, xa, xb, xc, xd, xe, xf] := by
      rw [show [x0, x1, x2, x3, x4, x5, x6, x7, x8, x9, xa, xb, xc, xd, xe, xf] = [x0, x1, x2, x3, x4, x5, x6, x7] ++ [x8, x9, xa, xb, xc, xd, xe, xf] from rfl, numF_app, numF_add]
      rfl
    rw [e]
    generalize numF 0 [x0, x1, x2, x3, x4, x5, x6, x7] = p at l1 e1
    generalize numF 0 [x8, x9, xa, xb, xc, xd, xe, xf] = q at l2 e2
    have d : ∀ j, (p * 256 + q).testBit (j + 8) = p.testBit j := fun j => by
      rw [← Nat.testBit_div_two_pow]
      congr 1
      show (p * 256 + q) / 256 = p
      omega
    have m : ∀ j, j < 8 → (p * 256 + q).testBit j = q.testBit j := fun j hj => by
      have h := Nat.testBit_mod_two_pow (p * 256 + q) 8 j
      rw [show (p * 256 + q) % 2 ^ 8 = q by show (p * 256 + q) % 256 = q; omega] at h
      rw [h]; simp [hj]
    have d7 := d 7; have d6 := d 6; have d5 := d 5; have d4 := d 4; have d3 := d 3; have d2 := d 2; have d1 := d 1; have d0 := d 0
    simp only [Nat.reduceAdd] at d7 d6 d5 d4 d3 d2 d1 d0
    rw [bin16, d7, d6, d5, d4, d3, d2, d1, d0, m 7 (by omega), m 6 (by omega), m 5 (by omega), m 4 (by omega), m 3 (by omega), m 2 (by omega), m 1 (by omega), m 0 (by omega)]
    simp only [List.cons.injEq, and_true] at e1 e2 ⊢
    obtain ⟨a0, a1, a2, a3, a4, a5, a6, a7⟩ := e1
    obtain ⟨b0, b1, b2, b3, b4, b5, b6, b7⟩ := e2
    exact ⟨a0, a1, a2, a3, a4, a5, a6, a7, b0, b1, b2, b3, b4, b5, b6, b7⟩

/-! ### Byte by byte -/
theorem byteBits_len (c : UInt8) : (byteBits c).length = 8 := rfl
theorem msgBits_len : ∀ s : List UInt8, (msgBits s).length = 8 * s.length
  | [] => rfl
  | c :: s => by
    have := msgBits_len s
    simp only [msgBits, List.flatMap_cons, List.length_append, byteBits_len, List.length_cons] at *
    omega
def stream (s : List UInt8) : List Bool := msgBits s ++ List.replicate 16 false
theorem stream_len (s : List UInt8) : (stream s).length = 8 * s.length + 16 := by rw [stream, List.length_append, msgBits_len, List.length_replicate]
theorem aug_stream (s : List UInt8) : ∀ (r : Nat), r < 65536 → aug (r ^^^ numF 0 ((stream s).take 16)) ((stream s).drop 16) = s.foldl crcByte r := by
  induction s with
  | nil =>
    intro r _
    have h1 : (stream []).take 16 = List.replicate 16 false := rfl
    have h2 : (stream []).drop 16 = [] := rfl
    have h3 : numF 0 (List.replicate 16 false) = 0 := by decide
    rw [h1, h2, h3, Nat.xor_zero]
    rfl
  | cons c s ih0 =>
    intro r hr
    have h2 := crcByte_lt hr c
    have ih := ih0 _ h2
    clear h2 ih0
    have hs : stream (c :: s) = byteBits c ++ stream s := by simp [stream, msgBits]
    have hl := stream_len s
    generalize stream s = T at ih hs hl
    have t1 : (stream (c :: s)).take 16 = byteBits c ++ T.take 8 := by rw [hs, List.take_append, byteBits_len, List.take_of_length_le (by rw [byteBits_len]; omega)]
    have t2 : (stream (c :: s)).drop 16 = (T.drop 8).take 8 ++ T.drop 16 := by
      rw [hs, List.drop_append, byteBits_len, List.drop_of_length_le (by rw [byteBits_len]; omega), List.nil_append]
      rw [show 16 - 8 = 8 from rfl]
      have := List.take_append_drop 8 (T.drop 8)
      rw [List.drop_drop] at this
      exact this.symm
    have n1 : numF 0 (T.take 8) < 256 := by
      have := numF_lt (T.take 8) 0 0 (by decide)
      rw [List.length_take, Nat.min_eq_left (by omega)] at this
      exact this
    have n2 : numF 0 (byteBits c ++ T.take 8) = (c.toNat * 256) ^^^ numF 0 (T.take 8) := by
      rw [numF_app, num_byte, numF_add, List.length_take, Nat.min_eq_left (by omega)]
      have hx := Nat.two_pow_add_eq_or_of_lt (i := 8) (b := numF 0 (T.take 8)) n1 c.toNat
      rw [Nat.mul_comm c.toNat, show (2 : Nat) ^ 8 = 256 from rfl] at *
      rw [hx]
      apply Nat.eq_of_testBit_eq
      intro j
      rw [Nat.testBit_or, Nat.testBit_xor]
      rcases Nat.lt_or_ge j 8 with q | q
      · have : (256 * c.toNat).testBit j = false := by
          rw [show (256 : Nat) = 2 ^ 8 from rfl, Nat.testBit_two_pow_mul]
          simp; omega
        rw [this]; simp
      · have : (numF 0 (T.take 8)).testBit j = false := Nat.testBit_lt_two_pow (Nat.lt_of_lt_of_le n1 (by rw [show (256 : Nat) = 2 ^ 8 from rfl]; exact Nat.pow_le_pow_right (by decide) q))
        rw [this]; simp
    have hc : c.toNat * 256 < 65536 := by have := c.toNat_lt; omega
    have hq : r ^^^ (c.toNat * 256) < 65536 := Nat.xor_lt_two_pow (n := 16) hr hc
    have h16 : numF (numF 0 (T.take 8)) ((T.drop 8).take 8) = numF 0 (T.take 16) := by
      rw [← numF_app]
      congr 1
      rw [show (16 : Nat) = 8 + 8 from rfl, List.take_add]
    have hlt : numF 0 (T.take 16) < 65536 := by
      have := numF_lt (T.take 16) 0 0 (by decide)
      rw [List.length_take, Nat.min_eq_left (by omega)] at this
      exact this
    have hal : aug (r ^^^ numF 0 ((stream (c :: s)).take 16)) ((T.drop 8).take 8) = crcByte r c ^^^ numF 0 (T.take 16) := by
      rw [t1, n2, ← Nat.xor_assoc, aug_num _ _ _ hq (by rw [h16]; exact hlt), h16, List.length_take, List.length_drop, Nat.min_eq_left (by omega), crcByte]
    rw [t2, List.foldl_cons]
    generalize crcByte r c = q at ih hal ⊢
    rw [← ih]
    unfold aug at hal ⊢
    rw [List.foldl_append, hal]

theorem flips16 (l : List Bool) : ∀ (x0 x1 x2 x3 x4 x5 x6 x7 x8 x9 xa xb xc xd xe xf : Bool), flipN (x0 :: x1 :: x2 :: x3 :: x4 :: x5 :: x6 :: x7 :: x8 :: x9 :: xa :: xb :: xc :: xd :: xe :: xf :: l) 16 =
    (!x0) :: (!x1) :: (!x2) :: (!x3) :: (!x4) :: (!x5) :: (!x6) :: (!x7) :: (!x8) :: (!x9) :: (!xa) :: (!xb) :: (!xc) :: (!xd) :: (!xe) :: (!xf) :: l := by
  intros
  simp [flipN, flipAt, List.modify_succ_cons, List.modify_zero_cons]
theorem bin_flip (w : Nat) : (bin16 w).map not = bin16 (65535 ^^^ w) := by
  have h : ∀ j, j < 16 → (65535 ^^^ w).testBit j = !(w.testBit j) := fun j hj => by
    rw [Nat.testBit_xor]
    have : Nat.testBit 65535 j = true := by
      have := Nat.testBit_two_pow_sub_one 16 j
      simpa [hj] using this
    rw [this]; simp
  rw [bin16, bin16, h 15 (by omega), h 14 (by omega), h 13 (by omega), h 12 (by omega), h 11 (by omega), h 10 (by omega), h 9 (by omega), h 8 (by omega), h 7 (by omega), h 6 (by omega), h 5 (by omega), h 4 (by omega), h 3 (by omega), h 2 (by omega), h 1 (by omega), h 0 (by omega)]
  rfl
/-- The reference's check is the program's. -/
theorem refCrc_eq (s : List UInt8) : refCrc s = crcS s := by
  have hl := stream_len s
  have h16 : ((stream s).take 16).length = 16 := by rw [List.length_take]; omega
  have hb := bin_num _ h16
  have hx : stream s = bin16 (numF 0 ((stream s).take 16)) ++ (stream s).drop 16 := by rw [hb, List.take_append_drop]
  have hlt : numF 0 ((stream s).take 16) < 65536 := by
    have := numF_lt ((stream s).take 16) 0 0 (by decide)
    rw [h16] at this
    exact this
  have ha := aug_stream s 65535 (by decide)
  have hd : ((stream s).drop 16).length = 8 * s.length := by rw [List.length_drop]; omega
  unfold refCrc
  rw [show msgBits s ++ List.replicate 16 false = stream s from rfl]
  generalize (stream s).drop 16 = R at hx ha hd
  generalize numF 0 ((stream s).take 16) = m at hx ha hlt
  have hf : flipN (stream s) 16 = bin16 (65535 ^^^ m) ++ R := by
    rw [hx, ← bin_flip]
    exact flips16 R _ _ _ _ _ _ _ _ _ _ _ _ _ _ _ _
  have hw : 65535 ^^^ m < 65536 := Nat.xor_lt_two_pow (n := 16) (by decide) hlt
  have hr := red_window R (65535 ^^^ m) (flipN (stream s) 16) 0 hw (by rw [hf]; rfl)
  rw [Nat.zero_add, hd] at hr
  rw [hr, List.drop_left' (by simp), ha]
  exact num_bin (crcS_lt s)
end Go.Sky

namespace Go.Sky

def sameP (p q : Int × Int) : Bool := p.1 == q.1 && p.2 == q.2
def netE0 (st : Int) (np : Nat) : Int := firstE [errU (inR st 1 8) 2, errU (decide (((np : Nat) : Int) ≤ 28)) 8]
def pairErr (st : Int) (pre : List (Int × Int)) (p : Int × Int) : Int :=
  firstE [errU (inR p.1 0 (st - 1) && inR p.2 0 (st - 1)) 6, errU (decide (p.1 < p.2)) 9, errU (!pre.any (sameP p)) 23]
def netFrom (st : Int) (pre : List (Int × Int)) : List (Int × Int) → Int → Int × Int
  | [], _ => (0, 0)
  | p :: l, i => if pairErr st pre p = 0 then netFrom st (pre ++ [p]) l (i + 1) else (i, pairErr st pre p)
def netS (st : Int) (ps : List (Int × Int)) : Int × Int := if netE0 st ps.length = 0 then netFrom st [] ps 0 else (0, netE0 st ps.length)

theorem netFrom_step {st : Int} {ps : List (Int × Int)} {k : Nat} {p : Int × Int} (h : ps[k]? = some p) :
    netFrom st (ps.take k) (ps.drop k) k = if pairErr st (ps.take k) p = 0 then netFrom st (ps.take (k + 1)) (ps.drop (k + 1)) ((k + 1 : Nat) : Int) else ((k : Int), pairErr st (ps.take k) p) := by
  obtain ⟨hk, rfl⟩ := List.getElem?_eq_some_iff.1 h
  rw [List.drop_eq_getElem_cons hk, netFrom, List.take_succ_eq_append_getElem hk]
  rfl
theorem netE0_zero {st : Int} {n : Nat} (h : netE0 st n = 0) : 1 ≤ st ∧ st ≤ 8 ∧ n ≤ 28 := by
  unfold netE0 at h
  rw [firstE_two] at h
  by_cases h1 : errU (inR st 1 8) 2 = 0
  · rw [if_pos h1, errU_zero (by decide)] at h
    rw [errU_zero (by decide)] at h1
    simp [inR] at h1 h
    omega
  · rw [if_neg h1] at h; exact absurd h h1

theorem pairErr_zero {st : Int} {pre : List (Int × Int)} {p : Int × Int} (h : pairErr st pre p = 0) : 0 ≤ p.1 ∧ p.1 < p.2 ∧ p.2 < st := by
  unfold pairErr at h
  rw [firstE_three, firstE_two] at h
  by_cases h1 : errU (inR p.1 0 (st - 1) && inR p.2 0 (st - 1)) 6 = 0
  · rw [if_pos h1] at h
    by_cases h2 : errU (decide (p.1 < p.2)) 9 = 0
    · rw [errU_zero (by decide)] at h1 h2
      simp [inR] at h1 h2
      omega
    · rw [if_neg h2] at h; exact absurd h h2
  · rw [if_neg h1, if_neg h1] at h; exact absurd h h1
theorem netFrom_zero {st : Int} : ∀ (l pre : List (Int × Int)) (i : Int), (netFrom st pre l i).2 = 0 → ∀ p ∈ l, 0 ≤ p.1 ∧ p.1 < p.2 ∧ p.2 < st := by
  intro l
  induction l with
  | nil => intro pre i _ p hp; cases hp
  | cons q l ih =>
    intro pre i h p hp
    rw [netFrom] at h
    by_cases hq : pairErr st pre q = 0
    · rw [if_pos hq] at h
      rcases List.mem_cons.1 hp with rfl | hp
      · exact pairErr_zero hq
      · exact ih _ _ h p hp
    · rw [if_neg hq] at h; exact absurd h hq
theorem netS_zero {st : Int} {ps : List (Int × Int)} (h : (netS st ps).2 = 0) : 1 ≤ st ∧ st ≤ 8 ∧ ps.length ≤ 28 ∧ ∀ p ∈ ps, 0 ≤ p.1 ∧ p.1 < p.2 ∧ p.2 < st := by
  unfold netS at h
  by_cases h0 : netE0 st ps.length = 0
  · rw [if_pos h0] at h
    obtain ⟨a, b, c⟩ := netE0_zero h0
    exact ⟨a, b, c, netFrom_zero _ _ _ h⟩
  · rw [if_neg h0] at h; exact absurd h h0

/-- The masks of a net: for each station those that it disturbs. -/
def orAt (ms : List Nat) (a b : Nat) : List Nat := ms.set a (ms.getD a 0 ||| 2 ^ b)
def maskStep (ms : List Nat) (p : Int × Int) : List Nat := orAt (orAt ms p.1.toNat p.2.toNat) p.2.toNat p.1.toNat
def maskS (s : Nat) (ps : List (Int × Int)) : List Nat := ps.foldl maskStep (List.replicate s 0)
theorem orAt_len (ms : List Nat) (a b : Nat) : (orAt ms a b).length = ms.length := by simp [orAt]
theorem orAt_lt {ms : List Nat} {a b : Nat} (hm : ∀ m ∈ ms, m < 256) (hb : b < 8) : ∀ m ∈ orAt ms a b, m < 256 := by
  intro m h
  unfold orAt at h
  rcases List.mem_or_eq_of_mem_set h with h | rfl
  · exact hm m h
  · have h1 : ms.getD a 0 < 2 ^ 8 := by
      rw [List.getD_eq_getElem?_getD]
      cases hq : ms[a]? with
      | none => simp
      | some x => exact hm x (List.mem_of_getElem? hq)
    have h2 : (2 : Nat) ^ b < 2 ^ 8 := Nat.pow_lt_pow_right (by omega) hb
    exact Nat.or_lt_two_pow h1 h2

/-- Whether the first j stations leave the slot c free for the next one. -/
def freeTo (ms : List Nat) (slots : List Int) (c : Int) : Nat → Bool
  | 0 => true
  | j + 1 => freeTo ms slots c j && !(slots.getD j 0 == c && (ms.getD j 0).testBit slots.length)
def planF (ms : List Nat) (cnt : Nat) : Nat → List Int → Option (List Int)
  | 0, slots => some slots
  | f + 1, slots => (List.range cnt).findSome? fun (c : Nat) => if freeTo ms slots (c : Int) slots.length then planF ms cnt f (slots ++ [(c : Int)]) else none
def candS (ms : List Nat) (cnt f : Nat) (slots : List Int) (c : Nat) : Option (List Int) := if freeTo ms slots (c : Int) slots.length then planF ms cnt f (slots ++ [(c : Int)]) else none
theorem planF_succ (ms : List Nat) (cnt f : Nat) (slots : List Int) : planF ms cnt (f + 1) slots = (List.range cnt).findSome? (candS ms cnt f slots) := rfl
theorem range_findSome_none {α : Type} {g : Nat → Option α} {n : Nat} (h : ∀ c, c < n → g c = none) : (List.range n).findSome? g = none := by
  rw [List.findSome?_eq_none_iff]
  intro x hx
  exact h x (List.mem_range.1 hx)
theorem range_findSome_some {α : Type} {g : Nat → Option α} {n k : Nat} {r : α} (hk : k < n) (hno : ∀ c, c < k → g c = none) (hr : g k = some r) : (List.range n).findSome? g = some r := by
  rw [List.findSome?_eq_some_iff]
  refine ⟨List.range k, k, (List.range (n - k - 1)).map (· + (k + 1)), ?_, hr, fun x hx => hno x (List.mem_range.1 hx)⟩
  have h1 : n = k + (1 + (n - k - 1)) := by omega
  conv => lhs; rw [h1]
  rw [List.range_add, List.range_add]
  simp [Function.comp_def]
  intro a _
  omega
theorem planF_len {ms : List Nat} {cnt : Nat} : ∀ (f : Nat) (slots r : List Int), planF ms cnt f slots = some r → r.length = slots.length + f := by
  intro f
  induction f with
  | zero => intro slots r h; injection h with h; rw [← h]; rfl
  | succ f ih =>
    intro slots r h
    rw [planF_succ] at h
    obtain ⟨_, c, _, _, hc, _⟩ := List.findSome?_eq_some_iff.1 h
    unfold candS at hc
    split at hc
    · have := ih _ _ hc
      simp at this; omega
    · cases hc
theorem freeTo_of (ms : List Nat) (slots : List Int) (c : Int) (h : ∀ j, slots.getD j 0 ≠ c ∨ slots.length ≤ j) : ∀ j, j ≤ slots.length → freeTo ms slots c j = true := by
  intro j
  induction j with
  | zero => intro _; rfl
  | succ j ih =>
    intro hj
    rw [freeTo, ih (by omega)]
    rcases h j with h1 | h1
    · have h2 : (slots.getD j 0 == c) = false := by simpa using h1
      rw [h2]; rfl
    · omega
theorem planF_isSome (ms : List Nat) (s : Nat) : ∀ (f : Nat) (L : Nat), L + f = s → (planF ms s f ((List.range L).map (fun (i : Nat) => (i : Int)))).isSome = true := by
  intro f
  induction f with
  | zero => intro L _; rfl
  | succ f ih =>
    intro L hL
    rw [planF_succ]
    rw [Option.isSome_iff_ne_none]
    intro h
    rw [List.findSome?_eq_none_iff] at h
    have h1 := h L (List.mem_range.2 (by omega))
    unfold candS at h1
    rw [freeTo_of] at h1
    · rw [if_pos rfl] at h1
      have h2 := ih (L + 1) (by omega)
      rw [List.range_succ, List.map_append, List.map_singleton, h1] at h2
      cases h2
    · intro j
      by_cases hj : j < L
      · left
        rw [List.getD_eq_getElem?_getD, List.getElem?_map, List.getElem?_range hj]
        simp; omega
      · right; simp; omega
    · exact Nat.le_refl _

theorem maskFold_lt : ∀ (ps : List (Int × Int)) (ms : List Nat), (∀ p ∈ ps, p.1.toNat < 8 ∧ p.2.toNat < 8) → (∀ m ∈ ms, m < 256) → ∀ m ∈ ps.foldl maskStep ms, m < 256 := by
  intro ps
  induction ps with
  | nil => intro ms _ hm; exact hm
  | cons p ps ih =>
    intro ms hp hm
    rw [List.foldl_cons]
    have h1 := hp p (List.mem_cons_self ..)
    refine ih _ (fun q hq => hp q (List.mem_cons_of_mem _ hq)) ?_
    exact orAt_lt (orAt_lt hm h1.2) h1.1
theorem maskS_lt {s : Nat} {ps : List (Int × Int)} (hp : ∀ p ∈ ps, p.1.toNat < 8 ∧ p.2.toNat < 8) : ∀ m ∈ maskS s ps, m < 256 :=
  maskFold_lt ps _ hp (fun m hm => by rw [List.eq_of_mem_replicate hm]; omega)

end Go.Sky

namespace Go.Sky

/-- How many blocks there are. -/
def cntB (len size : Int) : Int := max 1 ((len + size - 1) / size)
theorem cntB_pos (len size : Int) : 1 ≤ cntB len size := by unfold cntB; omega
theorem cntB_le {len size : Int} (h0 : 0 ≤ len) (h1 : len ≤ 3000) (hs : 1 ≤ size) : cntB len size ≤ 3000 := by
  unfold cntB
  have h : (len + size - 1) / size ≤ 3000 := by
    rw [Int.ediv_le_iff_le_mul (by omega)]
    have : 3000 * size ≥ 3000 + (size - 1) := by
      have : 3000 * size = 2999 * size + size := by omega
      omega
    omega
  omega
/-- Where a block begins: within the string. -/
theorem cntB_begin {len size i : Int} (h0 : 0 ≤ len) (hs : 1 ≤ size) (hi0 : 0 ≤ i) (hi : i < cntB len size) : i * size ≤ len := by
  unfold cntB at hi
  rcases (show i = 0 ∨ i < (len + size - 1) / size by omega) with h | h
  · rw [h]; omega
  · have h1 : (i + 1) * size ≤ len + size - 1 := by
      rw [← Int.le_ediv_iff_mul_le (by omega)]
      omega
    rw [Int.add_mul] at h1
    omega
def strE (len size : Int) : Int := if 3000 < len then 8 else if size < 1 ∨ 1000 < size then 2 else if 30 < cntB len size then 16 else 0
end Go.Sky
