/- Plain functions of chapter 9 (checks). No program. -/
import Derived.Test.YtjpkcmlepjbamaaSpecB
namespace Go.Sky

/-- One step of the remainder: a bit shifted out. -/
def crcBit (r : Nat) : Nat := if 65535 < r * 2 then (r * 2) ^^^ 69665 else r * 2
def crcBits (r : Nat) : Nat → Nat
  | 0 => r
  | k + 1 => crcBit (crcBits r k)
def crcByte (r : Nat) (c : UInt8) : Nat := crcBits (r ^^^ (c.toNat * 256)) 8
def crcS (s : List UInt8) : Nat := s.foldl crcByte 65535

theorem crcBit_lt {r : Nat} (h : r < 65536) : crcBit r < 65536 := by
  unfold crcBit
  split
  · rename_i h1
    have hx : (r * 2) ^^^ 69665 < 2 ^ 17 := Nat.xor_lt_two_pow (by omega) (by omega)
    have ht : Nat.testBit ((r * 2) ^^^ 69665) 16 = false := by
      rw [Nat.testBit_xor]
      have h2 : Nat.testBit (r * 2) 16 = true := by
        rw [Nat.testBit_eq_decide_div_mod_eq]
        simp; omega
      rw [h2]; decide
    rw [Nat.testBit_eq_decide_div_mod_eq] at ht
    simp at ht
    omega
  · omega
theorem crcBits_lt {r : Nat} (h : r < 65536) (k : Nat) : crcBits r k < 65536 := by
  induction k with
  | zero => exact h
  | succ k ih => exact crcBit_lt ih
theorem crcByte_lt {r : Nat} (h : r < 65536) (c : UInt8) : crcByte r c < 65536 := by
  have hx : r ^^^ (c.toNat * 256) < 65536 := by
    have h1 : r < 2 ^ 16 := h
    have h2 : c.toNat * 256 < 2 ^ 16 := by have := c.toNat_lt; omega
    exact Nat.xor_lt_two_pow h1 h2
  unfold crcByte
  generalize r ^^^ (c.toNat * 256) = q at hx
  exact crcBits_lt hx 8
theorem crcFold_lt (s : List UInt8) : ∀ r, r < 65536 → s.foldl crcByte r < 65536 := by
  induction s with
  | nil => intro r h; simpa using h
  | cons c s ih =>
    intro r h
    rw [List.foldl_cons]
    have h2 := crcByte_lt h c
    generalize crcByte r c = q at h2
    exact ih q h2
theorem crcS_lt (s : List UInt8) : crcS s < 65536 := by unfold crcS; exact crcFold_lt s 65535 (by omega)

end Go.Sky
