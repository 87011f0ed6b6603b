/- Contracts: base's Within, Mod, IsTick, Floor, Ceil, Size. -/
import Derived.Test.YtjpkcmlepjbamaaW15
namespace Go.Proofs.Ytjpkcmlepjbamaa
open Go.RowKit Go.Sky

theorem bWithin_any (n lo hi : Int) (w : World) : Calls Try.prog 20 #[.int .i64 n, .int .i64 lo, .int .i64 hi] w fun e w' => e = .returned (.bool (inR n lo hi)) ∧ w = w' := by
  by_cases h1 : lo ≤ n
  · go_enter Try.func20, Try.ntmps20
    go_wp2
    go_ret
    exact ⟨by simp [inR, h1], rfl⟩
  · go_enter Try.func20, Try.ntmps20
    go_wp2
    go_ret
    exact ⟨by simp only [inR]; simp; omega, rfl⟩
theorem bWithin_is (n lo hi : Int) (c : Bool) (w : World) (h : inR n lo hi = c) : Calls Try.prog 20 #[.int .i64 n, .int .i64 lo, .int .i64 hi] w fun e w' => e = .returned (.bool c) ∧ w = w' := h ▸ bWithin_any n lo hi w

theorem bIsTick_any (n : Int) (w : World) : Calls Try.prog 81 #[.int .i64 n] w fun e w' => e = .returned (.bool (tick n)) ∧ w = w' := by
  go_enter Try.func81, Try.ntmps81
  go_wp2_with (go_at_call 20; refine (bWithin_any _ _ _ _).mono ?_; rintro e w' ⟨rfl, rfl⟩)
  go_ret
  exact ⟨rfl, rfl⟩

/-! ### Go's division that rounds to zero, and the floor -/
theorem tmod_bd (n : Int) {b : Int} (hb : 0 < b) : -b < n.tmod b ∧ n.tmod b < b := ⟨Int.lt_tmod_of_pos n hb, Int.tmod_lt_of_pos n hb⟩
theorem emod_of_tmod (n : Int) {b : Int} (hb : 0 < b) : n % b = if n.tmod b < 0 then n.tmod b + b else n.tmod b := by
  obtain ⟨h1, h2⟩ := tmod_bd n hb
  have h3 := Int.mul_tdiv_add_tmod n b
  have h4 : n % b = (n.tmod b) % b := by
    conv => lhs; rw [← h3]
    rw [Int.add_comm, Int.add_mul_emod_self_left]
  rw [h4]
  generalize n.tmod b = r at *
  split
  · rw [← Int.add_emod_right]
    exact Int.emod_eq_of_lt (by omega) (by omega)
  · exact Int.emod_eq_of_lt (by omega) (by omega)
theorem ediv_of_tdiv (n : Int) {b : Int} (hb : 0 < b) : n / b = if n.tmod b < 0 then n.tdiv b - 1 else n.tdiv b := by
  have h1 := emod_of_tmod n hb
  have h3 := Int.mul_tdiv_add_tmod n b
  have h4 := Int.mul_ediv_add_emod n b
  split
  · rename_i h
    rw [if_pos h] at h1
    have h5 : b * (n / b) = b * (n.tdiv b - 1) := by rw [Int.mul_sub]; omega
    exact Int.eq_of_mul_eq_mul_left (by omega) h5
  · rename_i h
    rw [if_neg h] at h1
    have h5 : b * (n / b) = b * (n.tdiv b) := by omega
    exact Int.eq_of_mul_eq_mul_left (by omega) h5

set_option maxHeartbeats 400000 in
theorem Mod_any (n b : Int) (w : World) (hb : 1 ≤ b) (hb1 : b ≤ 1000000000) : Calls Try.prog 18 #[.int .i64 n, .int .i64 b] w fun e w' => e = .returned (.int .i64 (n % b)) ∧ w = w' := by
  obtain ⟨h1, h2⟩ := tmod_bd n (b := b) (by omega)
  have HE := Lib.hid (emod_of_tmod n (b := b) (by omega))
  have h3 : -1000000000 ≤ n.tmod b := by omega
  have h4 : n.tmod b ≤ 1000000000 := by omega
  have hb0 : (b == 0) = false := by simp; omega
  by_cases hneg : n.tmod b < 0
  · have HV := Lib.hid (show n % b = n.tmod b + b by rw [HE.out, if_pos hneg])
    go_enter Try.func18, Try.ntmps18
    go_wp2
    go_ret
    exact ⟨by rw [HV.out]; rfl, rfl⟩
  · have HV := Lib.hid (show n % b = n.tmod b by rw [HE.out, if_neg hneg])
    go_enter Try.func18, Try.ntmps18
    go_wp2
    go_ret
    exact ⟨by rw [HV.out]; rfl, rfl⟩

set_option maxHeartbeats 400000 in
theorem Floor_any (n b : Int) (w : World) (hb : 1 ≤ b) (hb1 : b ≤ 1000000000) (hn : -4000000000000000 ≤ n) (hn1 : n ≤ 4000000000000000) :
    Calls Try.prog 25 #[.int .i64 n, .int .i64 b] w fun e w' => e = .returned (.int .i64 (n / b)) ∧ w = w' := by
  obtain ⟨h1, h2⟩ := tmod_bd n (b := b) (by omega)
  have HE := Lib.hid (ediv_of_tdiv n (b := b) (by omega))
  have h3 : -1000000000 ≤ n.tmod b := by omega
  have h4 : n.tmod b ≤ 1000000000 := by omega
  have hq : -4000000000000000 ≤ n / b ∧ n / b ≤ 4000000000000000 := by
    constructor
    · exact Int.le_ediv_of_mul_le (by omega) (by have := Int.mul_le_mul_of_nonpos_left (a := -4000000000000000) (b := b) (c := 1) (by omega) (by omega); omega)
    · have := Int.ediv_le_ediv (c := b) (by omega) hn1
      have h9 : (4000000000000000 : Int) / b ≤ 4000000000000000 := Int.ediv_le_self _ (by omega)
      omega
  have hq2 : -4000000000000000 ≤ n.tdiv b ∧ n.tdiv b ≤ 4000000000000001 := by
    have h := HE.out
    split at h <;> omega
  obtain ⟨k1, k2⟩ := hq2
  clear hq
  have hb0 : (b == 0) = false := by simp; omega
  by_cases hneg : n.tmod b < 0
  · have HV := Lib.hid (show n / b = n.tdiv b - 1 by rw [HE.out, if_pos hneg])
    go_enter Try.func25, Try.ntmps25
    go_wp2
    go_ret
    exact ⟨by rw [HV.out]; rfl, rfl⟩
  · have HV := Lib.hid (show n / b = n.tdiv b by rw [HE.out, if_neg hneg])
    go_enter Try.func25, Try.ntmps25
    go_wp2
    go_ret
    exact ⟨by rw [HV.out]; rfl, rfl⟩

/-- The quotient rounded up, as the reference has it. -/
def ceilI (n b : Int) : Int := -((-n) / b)
theorem ceil_up {n b : Int} (hb : 0 < b) : ceilI n b = upS n b := by
  unfold ceilI upS
  have h1 := Int.mul_ediv_add_emod (-n) b
  have h2 := Int.emod_nonneg (-n) (show b ≠ 0 by omega)
  have h3 := Int.emod_lt_of_pos (-n) hb
  have h4 := Int.mul_ediv_add_emod (n + b - 1) b
  have h5 := Int.emod_nonneg (n + b - 1) (show b ≠ 0 by omega)
  have h6 := Int.emod_lt_of_pos (n + b - 1) hb
  generalize (-n) / b = q at *
  generalize (n + b - 1) / b = r at *
  generalize (-n) % b = x at *
  generalize (n + b - 1) % b = y at *
  have h7 : b * (q + r) = b - 1 - x - y := by rw [Int.mul_add]; omega
  have h8 : -b < b * (q + r) := by omega
  have h9 : b * (q + r) < b := by omega
  have h10 : q + r = 0 := by
    rcases Int.lt_trichotomy (q + r) 0 with h | h | h
    · have := Int.mul_le_mul_of_nonneg_left (show q + r ≤ -1 by omega) (show 0 ≤ b by omega)
      omega
    · exact h
    · have := Int.mul_le_mul_of_nonneg_left (show 1 ≤ q + r by omega) (show 0 ≤ b by omega)
      omega
  omega

set_option maxHeartbeats 400000 in
theorem Ceil_any (n b : Int) (w : World) (hb : 1 ≤ b) (hb1 : b ≤ 1000000000) (hn : -4000000000000000 ≤ n) (hn1 : n ≤ 4000000000000000) :
    Calls Try.prog 26 #[.int .i64 n, .int .i64 b] w fun e w' => e = .returned (.int .i64 (ceilI n b)) ∧ w = w' := by
  have hq : -4000000000000001 ≤ (-n) / b ∧ (-n) / b ≤ 4000000000000001 := by
    constructor
    · exact Int.le_ediv_of_mul_le (by omega) (by have := Int.mul_le_mul_of_nonpos_left (a := -4000000000000001) (b := b) (c := 1) (by omega) (by omega); omega)
    · have := Int.ediv_le_ediv (c := b) (by omega) (show -n ≤ 4000000000000000 by omega)
      have h9 : (4000000000000000 : Int) / b ≤ 4000000000000000 := Int.ediv_le_self _ (by omega)
      omega
  obtain ⟨k1, k2⟩ := hq
  go_enter Try.func26, Try.ntmps26
  go_wp2_with (go_at_call 25; refine (Floor_any _ _ _ hb hb1 (by omega) (by omega)).mono ?_; rintro e w' ⟨rfl, rfl⟩)
  go_ret
  exact ⟨rfl, rfl⟩

theorem Size_any (n : Int) (w : World) (hn : -4000000000000000 ≤ n) (hn1 : n ≤ 4000000000000000) :
    Calls Try.prog 84 #[.int .i64 n] w fun e w' => e = .returned (.int .i64 (max n (-n))) ∧ w = w' := by
  by_cases h : 0 ≤ n
  · have HV := Lib.hid (show max n (-n) = n by omega)
    have h2 : -n ≤ n := by omega
    go_enter Try.func84, Try.ntmps84
    go_wp2
    go_ret
    exact ⟨by rw [HV.out]; rfl, rfl⟩
  · have HV := Lib.hid (show max n (-n) = -n by omega)
    have h2 : ¬ -n ≤ n := by omega
    go_enter Try.func84, Try.ntmps84
    go_wp2
    go_ret
    exact ⟨by rw [HV.out]; rfl, rfl⟩
end Go.Proofs.Ytjpkcmlepjbamaa
