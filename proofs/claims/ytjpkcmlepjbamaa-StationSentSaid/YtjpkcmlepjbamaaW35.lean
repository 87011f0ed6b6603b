/- Contracts: the order of lists (cmp.Compare, slices.Compare, Before); groups of the program. -/
import Derived.Test.YtjpkcmlepjbamaaW14
import Derived.Test.YtjpkcmlepjbamaaW10
import Derived.Test.YtjpkcmlepjbamaaW6
import Derived.Test.YtjpkcmlepjbamaaSpecL
namespace Go.Proofs.Ytjpkcmlepjbamaa
open Go.RowKit Go.Sky

theorem bit_and_nat (a b : Nat) (ha : a < 9223372036854775808) (hb : b < 9223372036854775808) : bits .and .i64 (a : Int) (b : Int) = ((a &&& b : Nat) : Int) := by
  have hx : a &&& b ≤ a := Nat.and_le_left
  show IntKind.i64.wrap ((BitVec.ofInt 64 (a : Int) &&& BitVec.ofInt 64 (b : Int)).toNat : Int) = _
  rw [BitVec.toNat_and, ofInt_i64 a ha, ofInt_i64 b hb, IntKind.wrap_i64]
  omega
theorem bit_one {p k : Nat} (hp : p < 65536) : (bits .and .i64 ((p : Int) / 2 ^ k) 1 == 1) = p.testBit k := by
  have hdiv : (p : Int) / 2 ^ k = ((p / 2 ^ k : Nat) : Int) := by simp
  have hle : p / 2 ^ k ≤ p := Nat.div_le_self _ _
  rw [hdiv, Nat.testBit_eq_decide_div_mod_eq]
  generalize p / 2 ^ k = q at *
  have e := bit_and_nat q 1 (by omega) (by omega)
  rw [Nat.and_one_is_mod] at e
  rw [show ((1 : Nat) : Int) = 1 from rfl] at e
  rw [e]
  rw [Bool.eq_iff_iff]
  simp
  omega
theorem bit_zero {p k : Nat} (hp : p < 65536) : (bits .and .i64 ((p : Int) / 2 ^ k) 1 == 0) = !p.testBit k := by
  have hdiv : (p : Int) / 2 ^ k = ((p / 2 ^ k : Nat) : Int) := by simp
  have hle : p / 2 ^ k ≤ p := Nat.div_le_self _ _
  rw [hdiv, Nat.testBit_eq_decide_div_mod_eq]
  generalize p / 2 ^ k = q at *
  have e := bit_and_nat q 1 (by omega) (by omega)
  rw [Nat.and_one_is_mod] at e
  rw [show ((1 : Nat) : Int) = 1 from rfl] at e
  rw [e]
  rw [Bool.eq_iff_iff]
  simp
  omega

theorem isNaN_any (a : Int) (w : World) : Calls Try.prog 150 #[.int .i64 a] w fun e w' => e = .returned (.bool false) ∧ w = w' := by
  have d : (a != a) = false := by simp
  go_enter Try.func150, Try.ntmps150
  go_wp2
  go_ret
  exact ⟨rfl, rfl⟩

set_option maxHeartbeats 400000 in
theorem cmpI_any (a b : Int) (w : World) : Calls Try.prog 129 #[.int .i64 a, .int .i64 b] w fun e w' => e = .returned (.int .i64 (cmpI a b)) ∧ w = w' := by
  by_cases h1 : a < b
  · have HV := Lib.hid (show cmpI a b = -1 by unfold cmpI; rw [if_pos h1])
    go_enter Try.func129, Try.ntmps129
    go_wp2_with (go_at_call 150; refine (isNaN_any _ _).mono ?_; rintro e w' ⟨rfl, rfl⟩)
    go_ret
    exact ⟨by rw [HV.out]; rfl, rfl⟩
  · by_cases h2 : b < a
    · have HV := Lib.hid (show cmpI a b = 1 by unfold cmpI; rw [if_neg h1, if_pos h2])
      go_enter Try.func129, Try.ntmps129
      go_wp2_with (go_at_call 150; refine (isNaN_any _ _).mono ?_; rintro e w' ⟨rfl, rfl⟩)
      go_ret
      exact ⟨by rw [HV.out]; rfl, rfl⟩
    · have HV := Lib.hid (show cmpI a b = 0 by unfold cmpI; rw [if_neg h1, if_neg h2])
      go_enter Try.func129, Try.ntmps129
      go_wp2_with (go_at_call 150; refine (isNaN_any _ _).mono ?_; rintro e w' ⟨rfl, rfl⟩)
      go_ret
      exact ⟨by rw [HV.out]; rfl, rfl⟩

set_option maxRecDepth 100000 in
set_option maxHeartbeats 1000000 in
theorem compare_any (A B : Option Addr) (n m c1 c2 : Nat) (xs ys : List Int) (w : World) (hn : n ≤ 1000000) (hm : m ≤ 1000000) (hr : Rd w 1 encI A n xs) (hs : Rd w 1 encI B m ys) :
    Calls Try.prog 109 #[.slice A n c1, .slice B m c2] w fun e w' => e = .returned (.int .i64 (lexC xs ys)) ∧ w = w' := by
  have HL := Lib.hid hr.len
  have HM := Lib.hid hs.len
  have HR := Lib.hid hr; clear hr
  have HS := Lib.hid hs; clear hs
  go_enter Try.func109, Try.ntmps109
  go_wp2
  go_loopw [11] (fun i wr => ∃ k : Nat, k ≤ n ∧ i = .int .i64 (k : Int) ∧ Hid (lexC xs ys = lexC (xs.drop k) (ys.drop k)) ∧ wr = w) (fun i _ => n - (intOf i).toNat)
  case atStart => exact ⟨0, by omega, rfl, rfl, rfl⟩
  case round =>
    obtain ⟨k, hk, rfl, HF, rfl⟩ := hrel
    by_cases hlt : k < n
    · obtain ⟨b, o, x, rfl, hb, hx, hc⟩ := HR.out.at_ hlt
      have g0 := hc 0 _ rfl
      simp only [Nat.add_zero, Nat.mul_one] at g0
      have HX := Lib.hid hx
      clear hx hc
      by_cases hkm : k < m
      · obtain ⟨b', o', y, rfl, hb', hy, hc'⟩ := HS.out.at_ hkm
        have g1 := hc' 0 _ rfl
        simp only [Nat.add_zero, Nat.mul_one] at g1
        have HY := Lib.hid hy
        clear hy hc'
        have hst := lexC_drop HX.out HY.out
        rw [← HF.out] at hst
        obtain ⟨c, hc⟩ : ∃ c, cmpI x y = c := ⟨_, rfl⟩
        rw [hc] at hst
        have HC := Lib.hid hc
        have HST := Lib.hid hst
        clear hst hc
        go_wp2_with fail
        refine (cmpI_any _ _ _).mono ?_
        rintro e w' ⟨rfl, rfl⟩
        rw [HC.out]
        by_cases hc0 : c = 0
        · have HV := Lib.hid (show lexC xs ys = lexC (xs.drop (k + 1)) (ys.drop (k + 1)) by rw [HST.out, if_pos hc0])
          subst hc0
          go_wp2_with fail
          go_roundw
          case rel => exact ⟨k + 1, by omega, by go_num, HV, trivial⟩
          case measure => simp [intOf]; omega
        · have HV := Lib.hid (show lexC xs ys = c by rw [HST.out, if_neg hc0])
          have hcb : (c != 0) = true := by simpa using hc0
          clear hc0
          go_wp2_with fail
          go_ret
          exact ⟨by rw [HV.out]; rfl, rfl⟩
      · have HV := Lib.hid (show lexC xs ys = 1 by rw [HF.out, lexC_over (by rw [HL.out]; exact hlt) (by rw [HM.out]; omega)])
        go_wp2_with fail
        go_ret
        exact ⟨by rw [HV.out]; rfl, rfl⟩
    · obtain rfl : k = n := by omega
      have hst := lexC_end (xs := xs) (ys := ys) (k := k) (by rw [HL.out]; exact Nat.le_refl _)
      rw [← HF.out, HM.out] at hst
      by_cases hkm : k < m
      · have HV := Lib.hid (show lexC xs ys = -1 by rw [hst, if_pos hkm])
        clear hst
        go_wp2_with fail
        go_ret
        exact ⟨by rw [HV.out]; rfl, rfl⟩
      · have HV := Lib.hid (show lexC xs ys = 0 by rw [hst, if_neg hkm])
        clear hst
        go_wp2_with fail
        go_ret
        exact ⟨by rw [HV.out]; rfl, rfl⟩

set_option maxRecDepth 100000 in
set_option maxHeartbeats 1000000 in
theorem before_any (A B : Option Addr) (n m c1 c2 : Nat) (xs ys : List Int) (w : World) (hn : n ≤ 1000000) (hm : m ≤ 1000000) (hr : Rd w 1 encI A n xs) (hs : Rd w 1 encI B m ys) :
    Calls Try.prog 112 #[.slice A n c1, .slice B m c2] w fun e w' => e = .returned (.bool (decide (lexC xs ys < 0))) ∧ New w w' := by
  have HL := Lib.hid hr.len
  have HM := Lib.hid hs.len
  have HR := Lib.hid hr; clear hr
  have HS := Lib.hid hs; clear hs
  go_enter Try.func112, Try.ntmps112
  go_wp2
  go_loopw [5] (fun i wr => ∃ k : Nat, k ≤ n ∧ k ≤ m ∧ i = .int .i64 (k : Int) ∧ Hid (lexC xs ys = lexC (xs.drop k) (ys.drop k)) ∧ New w wr) (fun i _ => n - (intOf i).toNat)
  case atStart => exact ⟨0, by omega, by omega, rfl, rfl, New.refl _⟩
  case round =>
    obtain ⟨k, hk, hkm', rfl, HF, hN⟩ := hrel
    by_cases hlt : k < n
    · by_cases hkm : k < m
      · obtain ⟨b, o, x, rfl, hb, hx, hc⟩ := (HR.out.keep hN).at_ hlt
        have g0 := hc 0 _ rfl
        simp only [Nat.add_zero, Nat.mul_one] at g0
        have HX := Lib.hid hx
        clear hx hc
        obtain ⟨b', o', y, rfl, hb', hy, hc'⟩ := (HS.out.keep hN).at_ hkm
        have g1 := hc' 0 _ rfl
        simp only [Nat.add_zero, Nat.mul_one] at g1
        have HY := Lib.hid hy
        clear hy hc'
        have hst := lexC_drop HX.out HY.out
        rw [← HF.out] at hst
        have l1 : (0 : Int) ≤ (k : Int) := by omega
        have l2 : (k : Int) < (n : Int) := by omega
        have l3 : (k : Int) < (m : Int) := by omega
        by_cases hxy : x = y
        · have dxy : (x != y) = false := by simpa using hxy
          have HV := Lib.hid (show lexC xs ys = lexC (xs.drop (k + 1)) (ys.drop (k + 1)) by rw [hst, if_pos (by subst hxy; unfold cmpI; rw [if_neg (by omega), if_neg (by omega)])])
          clear hst hxy
          go_wp2
          go_quiet (fail)
          go_wp2
          go_roundw
          case rel => exact ⟨k + 1, by omega, by omega, by go_num, HV, hN.drewN _⟩
          case measure => simp [intOf]; omega
        · have dxy : (x != y) = true := by simpa using hxy
          have HV := Lib.hid (show decide (lexC xs ys < 0) = decide (x < y) by
            rw [hst]
            unfold cmpI
            by_cases h1 : x < y
            · rw [if_pos h1, if_neg (by decide), decide_eq_true h1]; rfl
            · rw [if_neg h1, if_pos (show y < x by omega), if_neg (by decide), decide_eq_false h1]; rfl)
          clear hst hxy
          go_wp2
          go_quiet (fail)
          go_wp2
          go_quiet (fail)
          go_wp2
          go_ret
          exact ⟨by rw [HV.out]; rfl, (hN.drewN _).drewN _⟩
      · obtain rfl : k = m := by omega
        have HV := Lib.hid (show decide (lexC xs ys < 0) = decide (n < k) by
          rw [HF.out, lexC_over (by rw [HL.out]; exact hlt) (by rw [HM.out]; exact Nat.le_refl _), decide_eq_false (by omega), decide_eq_false (by omega)])
        go_wp2
        go_ret
        exact ⟨by rw [HV.out]; rfl, hN⟩
    · obtain rfl : k = n := by omega
      have HV := Lib.hid (show decide (lexC xs ys < 0) = decide (k < m) by
        rw [HF.out, lexC_end (by rw [HL.out]; exact Nat.le_refl _), HM.out]
        by_cases h : k < m
        · rw [if_pos h, decide_eq_true (by omega), decide_eq_true (by omega)]
        · rw [if_neg h, decide_eq_false (by omega), decide_eq_false (by omega)])
      go_wp2
      go_ret
      exact ⟨by rw [HV.out]; rfl, hN⟩
end Go.Proofs.Ytjpkcmlepjbamaa
