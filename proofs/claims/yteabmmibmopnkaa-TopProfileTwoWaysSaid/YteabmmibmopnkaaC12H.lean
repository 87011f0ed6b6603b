/- Contracts of chapter 4: index, square, valley; a valid trace is checked and opened. -/
import Derived.BigQuiet
import Derived.Deep.AppendLies
import Derived.Deep.Draws
import Derived.Deep.Quiet
import Derived.Deep.QuietTactic
import Derived.Lib.Hide
import Derived.StillTail
import Derived.Test.YteabmmibmopnkaaProg
import Derived.WalkKit
import Derived.WalkLawsBesides
import Derived.WalkSpells
import Derived.Test.YteabmmibmopnkaaC12G

namespace Go.Proofs.Yteabmmibmopnkaa
open Go.RowKit Go.Sky

def encR2 (r : Int × Int) : List Value := [.int .i64 r.1, .int .i64 r.2]
theorem encR2_len (x : Int × Int) : (encR2 x).length = 2 := rfl
theorem encR2_one (x : Int × Int) : ∀ u ∈ encR2 x, u.oneCell' = true := by intro u hu; simp [encR2] at hu; rcases hu with rfl | rfl <;> rfl

set_option maxHeartbeats 1000000 in
theorem pIndex_any (sq f : Int) (w : World) (h0 : 1 ≤ f) (h1 : f ≤ 3000) (h2 : 0 ≤ sq) (h3 : sq < f * f) :
    Calls Try.prog 98 #[.int .i64 sq, .int .i64 f] w fun e w' => e = .returned (.agg #[.int .i64 (indexS sq f).1, .int .i64 (indexS sq f).2]) ∧ New w w' := by
  obtain ⟨⟨q0, q1⟩, ⟨r0, r1⟩, ⟨s0, s1⟩⟩ := index_law h0 h1 h2 h3
  obtain ⟨g0, g1⟩ := ff_in h0 h1
  have pe : partS f = 1000000 * f * f := rfl
  have pa : (1000000 : Int) * f * f = 1000000 * (f * f) := Int.mul_assoc _ _ _
  have p0 : (0 : Int) ≤ 1000000 * f * f := by omega
  have p1 : (1000000 : Int) * f * f ≤ 9000000000000 := by omega
  obtain ⟨m, hm⟩ : ∃ m, rootS (partS f / (f * f - sq)) = m := ⟨_, rfl⟩
  have HM := Lib.hid hm
  have HI := Lib.hid (show indexS sq f = (m, if m * m * (f * f - sq) < partS f then m + 1 else m) by unfold indexS; rw [hm])
  rw [hm] at r0 r1 s0 s1
  have mm0 : 0 ≤ m * m := Int.mul_nonneg (by omega) (by omega)
  have mm1 : m * m ≤ 3000000 * 3000000 := Int.mul_le_mul r1 r1 (by omega) (by omega)
  rw [pe] at q0 q1 HM HI
  clear hm pe
  have d0 : ¬ f * f - sq = 0 := by omega
  have d1 : (f * f - sq == 0) = false := by simp; omega
  clear pa
  by_cases hlt : m * m * (f * f - sq) < 1000000 * f * f
  · have HV := Lib.hid (show indexS sq f = (m, m + 1) by rw [HI.out, if_pos hlt])
    go_enter Try.func98, Try.ntmps98
    go_wp2_with fail
    refine (root_any _ _ q0 q1).mono ?_
    rw [HM.out]
    rintro e w' ⟨rfl, rfl⟩
    go_wp2_with fail
    exact bodyPost_ret (v := .agg #[.int .i64 (indexS sq f).1, .int .i64 (indexS sq f).2]) (by rw [HV.out]; simp [results, Try.results98, go_sem]) rfl ⟨rfl, (New.refl _).alloc _⟩
  · have HV := Lib.hid (show indexS sq f = (m, m) by rw [HI.out, if_neg hlt])
    go_enter Try.func98, Try.ntmps98
    go_wp2_with fail
    refine (root_any _ _ q0 q1).mono ?_
    rw [HM.out]
    rintro e w' ⟨rfl, rfl⟩
    go_wp2_with fail
    exact bodyPost_ret (v := .agg #[.int .i64 (indexS sq f).1, .int .i64 (indexS sq f).2]) (by rw [HV.out]; simp [results, Try.results98, go_sem]) rfl ⟨rfl, (New.refl _).alloc _⟩
theorem pIndex_is (sq f : Int) (r : Int × Int) (w : World) (h0 : 1 ≤ f) (h1 : f ≤ 3000) (h2 : 0 ≤ sq) (h3 : sq < f * f) (h : indexS sq f = r) :
    Calls Try.prog 98 #[.int .i64 sq, .int .i64 f] w fun e w' => e = .returned (.agg #[.int .i64 r.1, .int .i64 r.2]) ∧ New w w' := h ▸ pIndex_any sq f w h0 h1 h2 h3

set_option maxRecDepth 100000 in
set_option maxHeartbeats 1000000 in
theorem square_any (l : List Pt) (af wd : Int) (A : Option Addr) (n cap j : Nat) (w : World) (hj : j < n) (hf : 1 ≤ (ptAt l j).f ∧ (ptAt l j).f ≤ 3000) (hr : Rd w 3 encQ A n l) :
    Calls Try.prog 99 #[.agg #[.slice A n cap, .int .i64 af, .int .i64 wd], .int .i64 (j : Int)] w fun e w' => e = .returned (.int .i64 (sqAt l j)) ∧ New w w' := by
  obtain ⟨b, o, x, rfl, hb, hx, hc⟩ := hr.at_ hj
  have g0 := hc 0 _ rfl
  simp only [Nat.add_zero] at g0
  have HV := Lib.hid (show sqAt l j = x.f * x.f by unfold sqAt; rw [ptAt_of hx])
  rw [ptAt_of hx] at hf
  obtain ⟨g1, g2⟩ := ff_in hf.1 hf.2
  have i0 : (0 : Int) ≤ (j : Int) := by omega
  have i1 : (j : Int) < (n : Int) := by omega
  clear hr hx hc
  have N0 := (New.refl w).alloc (.cells #[.slice (some ⟨b, o, none⟩) n cap, .int .i64 af, .int .i64 wd] 94)
  have b0 := Bx.mk w 94 #[.slice (some ⟨b, o, none⟩) n cap, .int .i64 af, .int .i64 wd]
  go_enter Try.func99, Try.ntmps99
  go_wp2
  go_ret
  exact ⟨by rw [HV.out]; rfl, N0⟩

set_option maxRecDepth 100000 in
set_option maxHeartbeats 1000000 in
theorem valley_any (af wd : Int) (A : Option Addr) (n cap k : Nat) (w : World) (_hk : k ≤ 1000) :
    Calls Try.prog 47 #[.agg #[.slice A n cap, .int .i64 af, .int .i64 wd], .int .i64 (k : Int)] w fun e w' => e = .returned (.int .i64 (valS af wd k)) ∧ New w w' := by
  have N0 := (New.refl w).alloc (.cells #[.slice A n cap, .int .i64 af, .int .i64 wd] 94)
  by_cases h : af < (k : Int)
  · have HV := Lib.hid (show valS af wd k = wd by unfold valS; rw [if_pos h])
    go_enter Try.func47, Try.ntmps47
    go_wp2
    go_ret
    exact ⟨by rw [HV.out]; rfl, N0⟩
  · have HV := Lib.hid (show valS af wd k = 0 by unfold valS; rw [if_neg h])
    go_enter Try.func47, Try.ntmps47
    go_wp2
    go_ret
    exact ⟨by rw [HV.out]; rfl, N0⟩
end Go.Proofs.Yteabmmibmopnkaa
