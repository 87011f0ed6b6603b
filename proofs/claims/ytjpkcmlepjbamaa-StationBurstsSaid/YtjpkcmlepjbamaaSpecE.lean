/- Plain law: a burst of at most 16 bits changes the check. No program. -/
import Derived.Test.YtjpkcmlepjbamaaSpecC
namespace Go.Sky

theorem xor_two (a b : Nat) : (a ^^^ b) * 2 = (a * 2) ^^^ (b * 2) := by
  have h := Nat.shiftLeft_xor_distrib (a := a) (b := b) (i := 1)
  rw [Nat.shiftLeft_eq, Nat.shiftLeft_eq, Nat.shiftLeft_eq] at h
  simpa using h

theorem big_bit {r : Nat} (h : r < 65536) : (65535 < r * 2) ↔ r.testBit 15 = true := by
  rw [Nat.testBit_eq_decide_div_mod_eq]
  simp
  omega

theorem crcBit_eq {r : Nat} (h : r < 65536) : crcBit r = (r * 2) ^^^ (if r.testBit 15 = true then 69665 else 0) := by
  unfold crcBit
  by_cases hb : 65535 < r * 2
  · rw [if_pos hb, if_pos ((big_bit h).mp hb)]
  · rw [if_neg hb, if_neg (fun h2 => hb ((big_bit h).mpr h2)), Nat.xor_zero]

theorem crcBit_xor {a b : Nat} (ha : a < 65536) (hb : b < 65536) : crcBit (a ^^^ b) = crcBit a ^^^ crcBit b := by
  have hx : a ^^^ b < 65536 := Nat.xor_lt_two_pow (n := 16) ha hb
  rw [crcBit_eq ha, crcBit_eq hb, crcBit_eq hx, xor_two, Nat.testBit_xor]
  generalize a * 2 = A
  generalize b * 2 = B
  cases a.testBit 15 <;> cases b.testBit 15
  · simp
  · simp [Nat.xor_assoc]
  · simp only [Bool.xor_false, if_true, Bool.false_eq_true, if_false, Nat.xor_zero]
    rw [Nat.xor_assoc, Nat.xor_comm B, ← Nat.xor_assoc]
  · simp only [Bool.xor_self, if_true, Bool.false_eq_true, if_false, Nat.xor_zero]
    rw [show A ^^^ 69665 ^^^ (B ^^^ 69665) = A ^^^ B ^^^ (69665 ^^^ 69665) by
      rw [Nat.xor_assoc, Nat.xor_assoc, Nat.xor_comm B, ← Nat.xor_assoc 69665, Nat.xor_self, Nat.zero_xor]; simp]
    simp

theorem crcBits_xor {a b : Nat} (ha : a < 65536) (hb : b < 65536) (k : Nat) : crcBits (a ^^^ b) k = crcBits a k ^^^ crcBits b k := by
  induction k with
  | zero => rfl
  | succ k ih =>
    show crcBit (crcBits (a ^^^ b) k) = crcBit (crcBits a k) ^^^ crcBit (crcBits b k)
    rw [ih]
    exact crcBit_xor (crcBits_lt ha k) (crcBits_lt hb k)

theorem crcBits_add (a j k : Nat) : crcBits a (j + k) = crcBits (crcBits a j) k := by
  induction k with
  | zero => rfl
  | succ k ih =>
    show crcBit (crcBits a (j + k)) = crcBit (crcBits (crcBits a j) k)
    rw [ih]

theorem crcByte_xor {r d : Nat} (hr : r < 65536) (hd : d < 65536) (c : UInt8) : crcByte (r ^^^ d) c = crcByte r c ^^^ crcBits d 8 := by
  unfold crcByte
  have h2 : c.toNat * 256 < 65536 := by have := c.toNat_lt; omega
  have hx : r ^^^ (c.toNat * 256) < 65536 := by
    have g1 : r < 2 ^ 16 := hr
    have g2 : c.toNat * 256 < 2 ^ 16 := by omega
    exact Nat.xor_lt_two_pow g1 g2
  rw [show (r ^^^ d) ^^^ (c.toNat * 256) = (r ^^^ (c.toNat * 256)) ^^^ d by
    rw [Nat.xor_assoc, Nat.xor_comm d, ← Nat.xor_assoc]]
  exact crcBits_xor hx hd 8

theorem xor_mul256 (a b : Nat) : (a ^^^ b) * 256 = (a * 256) ^^^ (b * 256) := by
  have h := Nat.shiftLeft_xor_distrib (a := a) (b := b) (i := 8)
  rw [Nat.shiftLeft_eq, Nat.shiftLeft_eq, Nat.shiftLeft_eq] at h
  simpa using h

theorem byte256 (c : UInt8) : c.toNat * 256 < 65536 := by have := c.toNat_lt; omega
theorem xor16 {a b : Nat} (ha : a < 65536) (hb : b < 65536) : a ^^^ b < 65536 := by
  have g1 : a < 2 ^ 16 := by omega
  have g2 : b < 2 ^ 16 := by omega
  have g3 := Nat.xor_lt_two_pow g1 g2
  omega
theorem crcByte_flip {r : Nat} (hr : r < 65536) (c d : UInt8) : crcByte r (c ^^^ d) = crcByte r c ^^^ crcBits (d.toNat * 256) 8 := by
  unfold crcByte
  have h2 : d.toNat * 256 < 65536 := byte256 d
  have hx : r ^^^ (c.toNat * 256) < 65536 := xor16 hr (byte256 c)
  rw [UInt8.toNat_xor, xor_mul256, ← Nat.xor_assoc]
  exact crcBits_xor hx h2 8

theorem crcFold_xor (s : List UInt8) : ∀ (r d : Nat), r < 65536 → d < 65536 →
    s.foldl crcByte (r ^^^ d) = s.foldl crcByte r ^^^ crcBits d (8 * s.length) := by
  induction s with
  | nil => intro r d _ _; rfl
  | cons c s ih =>
    intro r d hr hd
    rw [List.foldl_cons, List.foldl_cons, crcByte_xor hr hd c]
    have h1 := crcByte_lt hr c
    have h2 := crcBits_lt hd 8
    rw [ih _ _ h1 h2, ← crcBits_add]
    rw [show 8 + 8 * s.length = 8 * (c :: s).length by simp; omega]

theorem crcS_flip (s : List UInt8) (i : Nat) (c d : UInt8) (hi : s[i]? = some c) :
    crcS (s.set i (c ^^^ d)) = crcS s ^^^ crcBits (d.toNat * 256) (8 + 8 * (s.length - 1 - i)) := by
  obtain ⟨hlt, hc⟩ := List.getElem?_eq_some_iff.mp hi
  have e1 : s = s.take i ++ c :: s.drop (i + 1) := by
    rw [← hc, List.getElem_cons_drop, List.take_append_drop]
  have e2 : s.set i (c ^^^ d) = s.take i ++ (c ^^^ d) :: s.drop (i + 1) := by
    rw [List.set_eq_take_append_cons_drop, if_pos hlt]
  have h0 : (s.take i).foldl crcByte 65535 < 65536 := crcFold_lt _ _ (by omega)
  have hd : d.toNat * 256 < 65536 := by have := d.toNat_lt; omega
  have hlen : (s.drop (i + 1)).length = s.length - 1 - i := by rw [List.length_drop]; omega
  rw [e2]
  conv => rhs; rw [show crcS s = crcS (s.take i ++ c :: s.drop (i + 1)) by rw [← e1]]
  unfold crcS
  rw [List.foldl_append, List.foldl_append, List.foldl_cons, List.foldl_cons]
  generalize (s.take i).foldl crcByte 65535 = r at h0
  rw [crcByte_flip h0, crcFold_xor _ _ _ (crcByte_lt h0 c) (crcBits_lt hd 8), ← crcBits_add, hlen]

theorem crcBits_pow (k : Nat) : ∀ (m : Nat), m + k ≤ 15 → crcBits (2 ^ m) k = 2 ^ (m + k) := by
  induction k with
  | zero => intro m _; rfl
  | succ k ih =>
    intro m h
    show crcBit (crcBits (2 ^ m) k) = _
    rw [ih m (by omega)]
    have hp : 2 ^ (m + k) ≤ 2 ^ 14 := Nat.pow_le_pow_right (by omega) (by omega)
    have e : 2 ^ (m + (k + 1)) = 2 ^ (m + k) * 2 := by rw [← Nat.add_assoc, Nat.pow_succ]
    rw [e]
    unfold crcBit
    rw [if_neg (by have : (2:Nat) ^ 14 = 16384 := rfl; omega)]

theorem crcBit_zero {r : Nat} (h : crcBit r = 0) : r = 0 := by
  unfold crcBit at h
  split at h
  · exfalso
    have h1 : ((r * 2) ^^^ 69665).testBit 0 = true := by
      rw [Nat.testBit_xor]
      have : (r * 2).testBit 0 = false := by rw [Nat.testBit_zero]; simp
      rw [this]; decide
    rw [h] at h1
    simp at h1
  · omega
theorem crcBits_zero {r : Nat} : ∀ (k : Nat), crcBits r k = 0 → r = 0 := by
  intro k
  induction k with
  | zero => intro h; exact h
  | succ k ih => intro h; exact ih (crcBit_zero h)

/-- The bits of the burst so far, as a number. -/
def burstV (p : Nat) : Nat → Nat
  | 0 => 0
  | k + 1 => burstV p k ^^^ (if p.testBit k then 2 ^ (15 - k) else 0)
theorem burstV_lt (p : Nat) (k : Nat) : burstV p k < 65536 := by
  induction k with
  | zero => show 0 < 65536; omega
  | succ k ih =>
    show burstV p k ^^^ _ < 65536
    refine Nat.xor_lt_two_pow (n := 16) ih ?_
    split
    · exact Nat.pow_lt_pow_right (by omega) (by omega)
    · omega
theorem burstV_bit (p : Nat) : ∀ (k : Nat), k ≤ 16 → ∀ j, j < 16 → (burstV p k).testBit (15 - j) = (decide (j < k) && p.testBit j) := by
  intro k
  induction k with
  | zero => intro _ j _; show Nat.testBit 0 _ = _; simp
  | succ k ih =>
    intro hk j hj
    show Nat.testBit (burstV p k ^^^ _) _ = _
    rw [Nat.testBit_xor, ih (by omega) j hj]
    by_cases he : j = k
    · subst he
      cases hb : p.testBit j <;> simp [Nat.testBit_two_pow_self]
    · have hne : (2 ^ (15 - k)).testBit (15 - j) = false := by
        rw [Nat.testBit_two_pow]; simp; omega
      have hd : decide (j < k + 1) = decide (j < k) := by
        by_cases h : j < k
        · simp [h]; omega
        · simp [h]; omega
      rw [hd]
      split
      · rw [hne]; simp
      · simp
theorem burstV_ne {p : Nat} (hp : p ≠ 0) (hp2 : p < 65536) : burstV p 16 ≠ 0 := by
  intro h
  apply hp
  apply Nat.eq_of_testBit_eq
  intro j
  rw [Nat.zero_testBit]
  by_cases hj : j < 16
  · have := burstV_bit p 16 (by omega) j hj
    rw [h] at this
    simp [hj] at this
    exact this
  · exact Nat.testBit_lt_two_pow (Nat.lt_of_lt_of_le hp2 (show 2 ^ 16 ≤ 2 ^ j from Nat.pow_le_pow_right (by omega) (by omega)))

/-- The byte with one bit, as the law writes it. -/
def flipBit (x : Nat) : UInt8 := UInt8.ofNat (2 ^ (7 - x % 8))
theorem flipBit_toNat (x : Nat) : (flipBit x).toNat = 2 ^ (7 - x % 8) := by
  unfold flipBit
  rw [UInt8.toNat_ofNat']
  have h : 2 ^ (7 - x % 8) ≤ 2 ^ 7 := Nat.pow_le_pow_right (by omega) (by omega)
  generalize 2 ^ (7 - x % 8) = t at *
  omega

/-- One round of the law's loop. -/
def flip1 (p a : Nat) (l : List UInt8) (k : Nat) : List UInt8 :=
  if p.testBit k then l.set ((a + k) / 8) (l.getD ((a + k) / 8) 0 ^^^ flipBit (a + k)) else l
def flips (p a : Nat) (l : List UInt8) : Nat → List UInt8
  | 0 => l
  | k + 1 => flip1 p a (flips p a l k) k
theorem flips_length (p a : Nat) (l : List UInt8) (k : Nat) : (flips p a l k).length = l.length := by
  induction k with
  | zero => rfl
  | succ k ih =>
    show (flip1 p a (flips p a l k) k).length = _
    unfold flip1
    split
    · rw [List.length_set, ih]
    · exact ih

theorem flips_crc (p a : Nat) (l : List UInt8) (ha : a + 16 ≤ 8 * l.length) : ∀ k, k ≤ 16 →
    crcS (flips p a l k) = crcS l ^^^ crcBits (burstV p k) (8 * l.length - a) := by
  intro k
  induction k with
  | zero =>
    intro _
    show crcS l = crcS l ^^^ crcBits 0 _
    have : ∀ n, crcBits 0 n = 0 := by
      intro n
      induction n with
      | zero => rfl
      | succ n ih => show crcBit (crcBits 0 n) = 0; rw [ih]; rfl
    rw [this, Nat.xor_zero]
  | succ k ih =>
    intro hk
    show crcS (flip1 p a (flips p a l k) k) = _
    unfold flip1
    rw [show burstV p (k + 1) = burstV p k ^^^ (if p.testBit k then 2 ^ (15 - k) else 0) from rfl]
    split
    · have hlen := flips_length p a l k
      have hi : (a + k) / 8 < (flips p a l k).length := by rw [hlen]; omega
      have hget : (flips p a l k)[(a + k) / 8]? = some ((flips p a l k).getD ((a + k) / 8) 0) := by
        rw [List.getD_eq_getElem?_getD, List.getElem?_eq_getElem hi]; rfl
      rw [crcS_flip _ _ _ _ hget, ih (by omega), flipBit_toNat, hlen]
      have hpw : 2 ^ (15 - k) < 65536 := Nat.pow_lt_pow_right (a := 2) (n := 16) (by omega) (by omega)
      rw [crcBits_xor (burstV_lt p k) hpw, ← Nat.xor_assoc]
      congr 1
      have e1 : 2 ^ (7 - (a + k) % 8) * 256 = crcBits 1 (15 - (a + k) % 8) := by
        rw [show (1 : Nat) = 2 ^ 0 from rfl, crcBits_pow _ 0 (by omega), show (256 : Nat) = 2 ^ 8 from rfl, ← Nat.pow_add]
        congr 1
        omega
      have e2 : 2 ^ (15 - k) = crcBits 1 (15 - k) := by
        rw [show (1 : Nat) = 2 ^ 0 from rfl, crcBits_pow _ 0 (by omega)]
        congr 1
        omega
      rw [e1, e2, ← crcBits_add, ← crcBits_add]
      congr 1
      omega
    · rw [Nat.xor_zero]
      exact ih (by omega)

theorem burst_law (p a : Nat) (l : List UInt8) (ha : a + 16 ≤ 8 * l.length) (hp : p ≠ 0) (hp2 : p < 65536) : crcS l ≠ crcS (flips p a l 16) := by
  intro h
  rw [flips_crc p a l ha 16 (by omega)] at h
  have h0 : crcBits (burstV p 16) (8 * l.length - a) = 0 := by
    have h1 : crcS l ^^^ crcS l = crcS l ^^^ (crcS l ^^^ crcBits (burstV p 16) (8 * l.length - a)) := by rw [← h]
    rw [← Nat.xor_assoc, Nat.xor_self, Nat.zero_xor] at h1
    exact h1.symm
  exact burstV_ne hp hp2 (crcBits_zero _ h0)

end Go.Sky
