/- Plain functions of chapter 9 (queues). No program. -/
import Derived.Test.YtjpkcmlepjbamaaSpecL
import Derived.Test.YtjpkcmlepjbamaaMem
namespace Go.Sky

/-! ### Names -/
def letB (c : UInt8) : Bool := decide (97 ≤ c.toNat ∧ c.toNat ≤ 122) || decide (65 ≤ c.toNat ∧ c.toNat ≤ 90)
def digB (c : UInt8) : Bool := decide (48 ≤ c.toNat ∧ c.toNat ≤ 57)
def badB (i : Nat) (c : UInt8) : Bool := !letB c && (decide (i = 0) || (decide (c.toNat ≠ 45) && !digB c))
def badTo (l : List UInt8) (k : Nat) : Bool := (List.range k).any fun i => badB i (l.getD i 0)
def nameS (l : List UInt8) : Bool := decide (1 ≤ l.length ∧ l.length ≤ 12) && !badTo l l.length
theorem badTo_step (l : List UInt8) (k : Nat) : badTo l (k + 1) = (badTo l k || badB k (l.getD k 0)) := by
  unfold badTo
  rw [List.range_succ, List.any_append]
  simp
theorem badTo_mono {l : List UInt8} {k h : Nat} (hk : k ≤ h) (h1 : badTo l k = true) : badTo l h = true := by
  obtain ⟨d, rfl⟩ := Nat.exists_eq_add_of_le hk
  clear hk
  induction d with
  | zero => exact h1
  | succ d ih => rw [← Nat.add_assoc, badTo_step, ih]; rfl
theorem name_bad {l : List UInt8} {k : Nat} (hk : k ≤ l.length) (h : badTo l k = true) : nameS l = false := by
  unfold nameS
  rw [badTo_mono hk h]
  simp
theorem name_len {l : List UInt8} (h : badTo l l.length = false) : nameS l = decide (1 ≤ l.length ∧ l.length ≤ 12) := by
  unfold nameS
  rw [h]
  simp
theorem let_or (c : UInt8) : letB c = decide (97 ≤ (c ||| 32).toNat ∧ (c ||| 32).toNat ≤ 122) := by
  have h : ∀ n : Fin 256, (decide (97 ≤ n.val ∧ n.val ≤ 122) || decide (65 ≤ n.val ∧ n.val ≤ 90)) = decide (97 ≤ (n.val ||| 32) ∧ (n.val ||| 32) ≤ 122) := by decide +kernel
  have := h ⟨c.toNat, c.toNat_lt⟩
  unfold letB
  rw [UInt8.toNat_or]
  exact this

/-! ### Items -/
structure Item where
  n : ByteArray
  p : Int
  z : Int
  t : Int
def encM (x : Item) : List Value := [.string x.n, .int .i64 x.p, .int .i64 x.z, .int .i64 x.t]
theorem encM_len (x : Item) : (encM x).length = 4 := rfl
theorem encM_one (x : Item) : ∀ u ∈ encM x, u.oneCell' = true := by intro u hu; simp [encM] at hu; rcases hu with rfl | rfl | rfl | rfl <;> rfl
end Go.Sky
