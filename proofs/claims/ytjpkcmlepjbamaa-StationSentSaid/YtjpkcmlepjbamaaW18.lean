/- Contracts: the reference of clocks. -/
import Derived.Test.YtjpkcmlepjbamaaW16
namespace Go.Proofs.Ytjpkcmlepjbamaa
open Go.RowKit Go.Sky

theorem encX_one (x : Exch) : ∀ u ∈ encX x, u.oneCell' = true := by intro u hu; simp [encX] at hu; rcases hu with rfl | rfl | rfl <;> rfl
theorem infoExch : (Try.prog.info? 35).map (fun i => (i.zero, i.size, i.bytes)) = some (some (.agg #[.int .i64 0, .int .i64 0, .int .i64 0]), 3, 24) := by kernel_rfl

set_option maxHeartbeats 400000 in
theorem copyX_any (A : Option Addr) (n cap : Nat) (xs : List Exch) (w : World) (hn : n ≤ 1000000) (hr : Rd w 3 encX A n xs) :
    Calls Try.prog 23 #[.slice A n cap] w fun e w' => ∃ A' cap', e = .returned (.slice A' n cap') ∧ Own w' w.heap.size 35 3 encX A' n cap' xs ∧ New w w' := by
  obtain ⟨i0, hi, hz0, hz1, hz2⟩ := info_parts infoExch
  have HR := Lib.hid hr; clear hr
  go_enter Try.func23, Try.ntmps23
  go_wp2_with (at_builtin; refine wpList_pour _ rfl _ _ 33 rfl 35 i0 _ 3 24 Try.underlying33 hi hz0 hz1 hz2 rfl (by omega) w.heap.size encX _ 0 0 [] rfl (by exact Own.empty _ _ _ _ encX_len _ (by simp) (by simp)) A n cap xs rfl (by exact HR.out.keep ((New.refl _).alloc _)) encX_one (by unfold maxLen; omega) (by omega) (by simp) ?_; intro A2 cap2 w2 hown2 hg2 hN2)
  go_ret
  refine ⟨A2, cap2, rfl, ?_, hN2 w ((New.refl w).alloc _) (Nat.le_refl _)⟩
  rw [Nat.zero_add] at hown2
  exact hown2

theorem few_any (A : Option Addr) (n cap : Nat) (w : World) :
    Calls Try.prog 28 #[.slice A n cap] w fun e w' => e = .returned (.bool (decide ((n : Int) ≤ 22))) ∧ w = w' := by
  go_enter Try.func28, Try.ntmps28
  go_wp2
  go_ret
  exact ⟨rfl, rfl⟩

theorem exErr_of (x : Exch) : exErr x = if (tick x.s && tick x.t && tick x.r) = true then (if x.r < x.s then 9 else 0) else 2 := by
  unfold exErr
  rw [firstE_two]
  cases tick x.s && tick x.t && tick x.r
  · rfl
  · by_cases h : x.s ≤ x.r
    · rw [if_pos (by rfl), if_pos rfl, if_neg (by omega)]; simp [errU, h]
    · rw [if_pos (by rfl), if_pos rfl, if_pos (by omega)]; simp [errU, h]

set_option maxHeartbeats 1000000 in
theorem refEx_any (x : Exch) (w : World) : Calls Try.prog 21 #[.agg #[.int .i64 x.s, .int .i64 x.t, .int .i64 x.r]] w fun e w' => e = .returned (.int .i64 (exErr x)) ∧ New w w' := by
  have HE := Lib.hid (exErr_of x)
  obtain ⟨s, t, r⟩ := x
  obtain ⟨h1, hc⟩ | ⟨h1, h2, hc⟩ | ⟨h1, h2, h3, hc⟩ | ⟨h1, h2, h3, hc⟩ :
      (tick s = false ∧ Hid ((tick s && tick t && tick r) = false)) ∨ (tick s = true ∧ tick t = false ∧ Hid ((tick s && tick t && tick r) = false)) ∨ (tick s = true ∧ tick t = true ∧ tick r = false ∧ Hid ((tick s && tick t && tick r) = false)) ∨ (tick s = true ∧ tick t = true ∧ tick r = true ∧ Hid ((tick s && tick t && tick r) = true)) := by
    unfold Hid
    cases tick s <;> cases tick t <;> cases tick r <;> simp
  · go_enter Try.func21, Try.ntmps21
    go_wp2_with (go_at_call 81; refine (bIsTick_any _ _).mono ?_; rintro e w' ⟨rfl, rfl⟩)
    go_ret
    exact ⟨by rw [HE.out, if_neg (by rw [hc.out]; simp)]; rfl, (New.refl _).alloc _⟩
  · go_enter Try.func21, Try.ntmps21
    go_wp2_with (go_at_call 81; refine (bIsTick_any _ _).mono ?_; rintro e w' ⟨rfl, rfl⟩)
    go_ret
    exact ⟨by rw [HE.out, if_neg (by rw [hc.out]; simp)]; rfl, (New.refl _).alloc _⟩
  · go_enter Try.func21, Try.ntmps21
    go_wp2_with (go_at_call 81; refine (bIsTick_any _ _).mono ?_; rintro e w' ⟨rfl, rfl⟩)
    go_ret
    exact ⟨by rw [HE.out, if_neg (by rw [hc.out]; simp)]; rfl, (New.refl _).alloc _⟩
  · by_cases h : r < s
    · have HV := Lib.hid (show exErr ⟨s, t, r⟩ = 9 by rw [HE.out, if_pos hc.out, if_pos h])
      go_enter Try.func21, Try.ntmps21
      go_wp2_with (go_at_call 81; refine (bIsTick_any _ _).mono ?_; rintro e w' ⟨rfl, rfl⟩)
      go_ret
      exact ⟨by rw [HV.out]; rfl, (New.refl _).alloc _⟩
    · have HV := Lib.hid (show exErr ⟨s, t, r⟩ = 0 by rw [HE.out, if_pos hc.out, if_neg h])
      go_enter Try.func21, Try.ntmps21
      go_wp2_with (go_at_call 81; refine (bIsTick_any _ _).mono ?_; rintro e w' ⟨rfl, rfl⟩)
      go_ret
      exact ⟨by rw [HV.out]; rfl, (New.refl _).alloc _⟩

theorem timeE_of (d t : Int) : timeE d t = if (inR d 0 1000 && tick t) = true then 0 else 2 := by
  unfold timeE
  rw [firstE_two]
  cases inR d 0 1000 <;> cases tick t <;> rfl

theorem driftErr_any (d t : Int) (w : World) : Calls Try.prog 30 #[.int .i64 d, .int .i64 t] w fun e w' => e = .returned (.int .i64 (timeE d t)) ∧ w = w' := by
  have HE := Lib.hid (timeE_of d t)
  obtain ⟨h1, hc⟩ | ⟨h1, h2, hc⟩ | ⟨h1, h2, hc⟩ :
      (inR d 0 1000 = false ∧ Hid ((inR d 0 1000 && tick t) = false)) ∨ (inR d 0 1000 = true ∧ tick t = false ∧ Hid ((inR d 0 1000 && tick t) = false)) ∨ (inR d 0 1000 = true ∧ tick t = true ∧ Hid ((inR d 0 1000 && tick t) = true)) := by
    unfold Hid
    cases inR d 0 1000 <;> cases tick t <;> simp
  all_goals
    go_enter Try.func30, Try.ntmps30
    go_wp2_with (first | (go_at_call 20; refine (bWithin_any _ _ _ _).mono ?_; rintro e w' ⟨rfl, rfl⟩) | (go_at_call 81; refine (bIsTick_any _ _).mono ?_; rintro e w' ⟨rfl, rfl⟩))
    go_ret
    exact ⟨by rw [HE.out, hc.out]; rfl, rfl⟩

set_option maxHeartbeats 1000000 in
theorem refOff_any (s t r d m : Int) (w : World) (hs : 0 ≤ s) (hsr : s ≤ r) (hr1 : r ≤ 1000000000000) (ht : 0 ≤ t) (ht1 : t ≤ 1000000000000) (hd : 0 ≤ d) (hd1 : d ≤ 1000) (hm : 0 ≤ m) (hm1 : m ≤ 1000000000000) :
    Calls Try.prog 32 #[.agg #[.int .i64 s, .int .i64 t, .int .i64 r], .int .i64 d, .int .i64 m] w fun e w' =>
      e = .returned (.agg #[.int .i64 (offBy ⟨s, t, r⟩ d m).1, .int .i64 (offBy ⟨s, t, r⟩ d m).2]) ∧ New w w' := by
  obtain ⟨z, hz⟩ : ∃ z, z = max3 (s - m) (m - r) := ⟨_, rfl⟩
  have hz0 : 0 ≤ z := by rw [hz]; unfold max3; omega
  have hz1 : z ≤ 1000000000000 := by rw [hz]; unfold max3; omega
  have hp0 : 0 ≤ d * z := Int.mul_nonneg hd hz0
  have hp1 : d * z ≤ 1000 * 1000000000000 := Int.mul_le_mul hd1 hz1 hz0 (by omega)
  have hcu := ceil_up (n := d * z) (b := 1000) (by omega)
  have hu0 : 0 ≤ ceilI (d * z) 1000 := by rw [hcu]; unfold upS; omega
  have hu1 : ceilI (d * z) 1000 ≤ 2000000000000 := by rw [hcu]; unfold upS; omega
  have hfin : offBy ⟨s, t, r⟩ d m = (t - r - ceilI (d * z) 1000, t - s + ceilI (d * z) 1000) := by rw [hcu, hz]; rfl
  have HF := Lib.hid hfin; clear hfin hcu
  obtain ⟨hc1, hc2, h0⟩ | ⟨hc1, hc2, h0⟩ | ⟨hc1, hc2, h0⟩ : (m < s ∧ m ≤ r ∧ z = s - m) ∨ (s ≤ m ∧ m ≤ r ∧ z = 0) ∨ (s ≤ m ∧ r < m ∧ z = m - r) := by
    rw [hz]; unfold max3; omega
  all_goals
    clear hz
    have HZ := Lib.hid h0
    rw [h0] at hp0 hp1 hu0 hu1
    clear h0
    have q0 : 0 ≤ ceilI 0 1000 := by decide
    have q1 : ceilI 0 1000 ≤ 0 := by decide
    go_enter Try.func32, Try.ntmps32
    go_wp2_with (go_at_call 26; refine (Ceil_any _ _ _ (by omega) (by omega) (by omega) (by omega)).mono ?_; rintro e w' ⟨rfl, rfl⟩)
    exact bodyPost_ret (v := .agg #[.int .i64 (offBy ⟨s, t, r⟩ d m).1, .int .i64 (offBy ⟨s, t, r⟩ d m).2]) (by rw [HF.out, HZ.out]; simp [results, Try.results32, go_sem]) rfl ⟨rfl, ((New.refl _).alloc _).alloc _⟩
end Go.Proofs.Ytjpkcmlepjbamaa
