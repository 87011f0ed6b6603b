/- The walk of StationThereAndBack. -/
import Derived.Test.YtjpkcmlepjbamaaW33
namespace Go.Proofs.Ytjpkcmlepjbamaa
open Go.RowKit Go.Sky

theorem refSer_big (A : Option Addr) (n cap : Nat) (xs : List Int) (w : World) (hl : xs.length = n) (h2 : 200 < n) :
    Calls Try.prog 43 #[.slice A n cap] w fun e w' => e = .returned (.int .i64 8) ∧ w = w' := by
  clear hl
  go_enter Try.func43, Try.ntmps43
  go_wp2_with fail
  go_ret
  exact ⟨rfl, rfl⟩

theorem mul_bd {k : Nat} {step : Int} (hk : k < 200) (h : -1000000 ≤ step ∧ step ≤ 1000000) : -200000000 ≤ (k : Int) * step ∧ (k : Int) * step ≤ 200000000 := by
  have h3 : (k : Int) * step ≤ (k : Int) * 1000000 := Int.mul_le_mul_of_nonneg_left h.2 (by omega)
  have h4 : (k : Int) * (-1000000) ≤ (k : Int) * step := Int.mul_le_mul_of_nonneg_left h.1 (by omega)
  constructor <;> omega

set_option maxRecDepth 100000 in
set_option maxHeartbeats 4000000 in
theorem back_in (A : Option Addr) (n cap : Nat) (xs : List Int) (f s : Int) (w : World) (hn : n ≤ 200) (hr : Rd w 1 encI A n xs) (h0 : serE xs = 0) :
    Calls Try.prog 8 #[.slice A n cap, .int .i64 f, .int .i64 s] w fun e w' => e = .returned (.bool true) ∧ New w w' := by
  obtain ⟨i0, hi, hz0, hz1, hz2⟩ := info_parts infoInt
  have HR := Lib.hid hr; clear hr
  have HL := Lib.hid HR.out.len
  have H0 := Lib.hid h0; clear h0
  go_enter Try.func8, Try.ntmps8
  go_wp2_with fail
  refine (awake_any _).mono ?_
  rintro e w1 ⟨rfl, n1⟩
  go_wp2_with fail
  refine (refSer_any A n cap xs _ (by omega) (HR.out.keep n1)).mono ?_
  rintro e w' ⟨rfl, rfl⟩
  rw [H0.out]
  go_wp2_with fail
  refine (copyInts_any A n cap xs _ (by omega) (HR.out.keep n1)).mono ?_
  rintro e w2 ⟨A2, c2, rfl, hown2, n2⟩
  go_wp2_with fail
  refine (Packed_any A2 n c2 xs _ (by omega) hown2.rd).mono ?_
  rintro e w3 ⟨n3, ⟨hbad, _⟩ | ⟨_, A3, m3, c3, rfl, o3⟩⟩
  · exact absurd H0.out hbad
  have r3 := o3.rd
  clear o3
  have nw3 := (n1.trans n2).trans n3
  have hm3 : m3 ≤ n := by
    rw [← r3.len]
    have := (pack_le xs).1
    rw [HL.out] at this
    exact this
  clear n1 n2 n3 hown2
  go_wp2_with fail
  have hx4 := Bx.mk w3 58 #[.int .i64 (packWay xs), .slice A3 m3 c3]
  have nw4 := nw3.alloc (.cells #[.int .i64 (packWay xs), .slice A3 m3 c3] 58)
  have r4 := r3.keep ((New.refl w3).alloc (.cells #[.int .i64 (packWay xs), .slice A3 m3 c3] 58))
  have hw3 : w.heap.size ≤ w3.heap.size := nw3.size
  clear nw3 r3
  refine (copyPacked_any (packWay xs) A3 m3 c3 (packNums xs) _ (by omega) r4).mono ?_
  rintro e w5 ⟨A5, c5, rfl, hc5, r5, n5⟩
  go_wp2_with fail
  refine (Unpacked_any (packWay xs) A5 m3 c5 (packNums xs) _ (by omega) hc5 r5).mono ?_
  rintro e w6 ⟨A6, m6, c6, rfl, r6, n6⟩
  have HTB := Lib.hid (there_back xs H0.out (by rw [HL.out]; exact hn) (serE_zero H0.out).2)
  rw [HTB.out] at r6 ⊢
  have hm6 : m6 ≤ 1000000 := by have h6 : xs.length = m6 := r6.len; rw [HL.out] at h6; omega
  have hx6 := (hx4.keep n5).keep n6
  have nw6 := (nw4.trans n5).trans n6
  clear hx4 nw4 r4 r5 n5 n6 hc5
  go_wp2_with fail
  refine (ints_is true A6 A m6 n c6 cap xs xs _ hm6 (by omega) r6 (HR.out.keep nw6) (by simp)).mono ?_
  rintro e w7 ⟨rfl, n7⟩
  have hx7 := hx6.keep n7
  have nw7 := nw6.trans n7
  clear hx6 nw6 r6 n7 hm6
  go_wp2_with fail
  refine (bWithin_any _ _ _ _).mono ?_
  rintro e w' ⟨rfl, rfl⟩
  obtain ⟨q, hq⟩ : ∃ q, inR f (-1000000) 1000000 = q := ⟨_, rfl⟩
  rw [hq]
  cases q
  · clear hq
    go_wp2_with fail
    go_ret
    exact ⟨rfl, nw7⟩
  have hf : -1000000 ≤ f ∧ f ≤ 1000000 := by unfold inR at hq; exact of_decide_eq_true hq
  clear hq
  go_wp2_with fail
  refine (bWithin_any _ _ _ _).mono ?_
  rintro e w' ⟨rfl, rfl⟩
  obtain ⟨q, hq⟩ : ∃ q, inR s (-1000000) 1000000 = q := ⟨_, rfl⟩
  rw [hq]
  cases q
  · clear hq
    go_wp2_with fail
    go_ret
    exact ⟨rfl, nw7⟩
  have hs : -1000000 ≤ s ∧ s ≤ 1000000 := by unfold inR at hq; exact of_decide_eq_true hq
  clear hq
  have hx7lt := Lib.hid hx7.lt
  obtain ⟨hf1, hf2⟩ := hf
  obtain ⟨hs1, hs2⟩ := hs
  go_wp2_with fail
  go_loopw [11, 12] (fun v i wr => ∃ (k : Nat) (A' : Option Addr) (cap' : Nat), k ≤ n ∧ i = .int .i64 (k : Int) ∧ v = .slice A' k cap' ∧ Sky.Own wr w7.heap.size 3 1 encI A' k cap' (evenS f s k) ∧ New w7 wr) (fun _ i _ => n - (intOf i).toNat)
  case atStart => exact ⟨0, none, 0, by omega, rfl, rfl, Sky.Own.nil _ _ _ _ encI_len, New.refl _⟩
  case round =>
    obtain ⟨k, A', cap', hk, rfl, rfl, hown, hN⟩ := hrel
    by_cases hkn : k < n
    · obtain ⟨p1, p2⟩ := mul_bd (k := k) (step := s) (by omega) ⟨hs1, hs2⟩
      have HE := Lib.hid (evenS_succ f s k)
      go_wp2_with (at_builtin; refine wpList_push _ rfl _ _ 30 rfl 3 i0 _ 1 8 Try.underlying30 hi hz0 hz1 hz2 rfl (by omega) w7.heap.size encI A' k cap' _ rfl (by exact hown.alloc _) _ 1 1 [f + (k : Int) * s] rfl rfl (by omega) (by exact cells_new _ _ _ _ (by simp) _ rfl) encI_one (by unfold maxLen; omega) (by omega) (by have := hN.size; simp; omega) ?_; intro g cap2 w9 hown3 hg3 hat3 hb3 hlt3 hN9)
      go_roundw
      case rel => exact ⟨k + 1, _, cap2, by omega, by go_num, rfl, by rw [HE.out]; exact hown3, hN9 _ (hN.alloc _) (Nat.le_refl _)⟩
      case measure => simp [intOf]; omega
    · obtain rfl : n = k := by omega
      have hx8 := hx7.keep hN
      have nw8 := nw7.trans hN
      have HEL := Lib.hid (evenS_len f s n)
      have HEB := Lib.hid (even_ok (n := n) ⟨hf1, hf2⟩ ⟨hs1, hs2⟩ hn)
      have HES := Lib.hid (serE_of (by rw [HEL.out]; exact hn) HEB.out)
      have HTB2 := Lib.hid (there_back (evenS f s n) HES.out (by rw [HEL.out]; exact hn) HEB.out)
      have hf4 := even_four f s n
      have hf5 : s = 0 → (packNums (evenS f s n)).length ≤ 2 := by rintro rfl; exact even_two f n
      clear hx7 nw7
      go_wp2_with fail
      refine (copyInts_any A' n cap' (evenS f s n) _ (by omega) hown.rd).mono ?_
      rintro e w9 ⟨A9, c9, rfl, hown9, n9⟩
      go_wp2_with fail
      refine (Packed_any A9 n c9 (evenS f s n) _ (by omega) hown9.rd).mono ?_
      rintro e w10 ⟨n10, ⟨hbad, _⟩ | ⟨_, A10, m10, c10, rfl, o10⟩⟩
      · exact absurd HES.out hbad
      have r10 := o10.rd
      rw [r10.len] at hf4 hf5
      have HF5 := Lib.hid hf5
      clear hf5
      have n9t := n9.trans n10
      have hlt9 : w3.heap.size < w9.heap.size := Nat.lt_of_lt_of_le hx8.lt n9.size
      have hx10 := hx8.keep n9t
      have nw10 := nw8.trans n9t
      have re10 := hown.keep n9t
      have hw7 : w3.heap.size < w7.heap.size := hx7lt.out
      clear n9 n10 hown9 hx8 nw8 hown hN n9t
      have f0 := hx10.free 0
      have f1 := hx10.free 1
      have c0 : World.cell? _ _ = some _ := hx10.cell 0
      have c1 : World.cell? _ _ = some _ := hx10.cell 1
      have lx := hx10.lt
      by_cases hs0 : s = 0
      · have hm10 : m10 ≤ 2 := HF5.out hs0
        have dsb : (s == 0) = true := by simpa using hs0
        clear hs0
        go_wp2_with fail
        have nF := (nw10.setCell (p := ⟨w3.heap.size, 0, none⟩) hw3 (.int .i64 (packWay (evenS f s n)))).setCell (p := ⟨w3.heap.size, 1, none⟩) hw3 (.slice A10 m10 c10)
        have oF := (o10.setBelow (p := ⟨w3.heap.size, 0, none⟩) hlt9 (.int .i64 (packWay (evenS f s n)))).setBelow (p := ⟨w3.heap.size, 1, none⟩) hlt9 (.slice A10 m10 c10)
        refine (Unpacked_any (packWay (evenS f s n)) A10 m10 c10 (packNums (evenS f s n)) _ (by omega) oF.le.1 oF.rd).mono ?_
        rintro e w11 ⟨A11, m11, c11, rfl, r11, n11⟩
        rw [HTB2.out] at r11 ⊢
        have hm11 : m11 ≤ 1000000 := by have h6 : (evenS f s n).length = m11 := r11.len; rw [HEL.out] at h6; omega
        have reF := re10.setBelow (p := ⟨w3.heap.size, 0, none⟩) hw7 (.int .i64 (packWay (evenS f s n)))
        have reG := (reF.setBelow (p := ⟨w3.heap.size, 1, none⟩) hw7 (.slice A10 m10 c10)).keep n11
        go_wp2_with fail
        refine (ints_is true A11 A' m11 n c11 cap' (evenS f s n) (evenS f s n) _ hm11 (by omega) r11 reG.rd (by simp)).mono ?_
        rintro e w12 ⟨rfl, n12⟩
        go_wp2_with fail
        go_ret
        exact ⟨rfl, (nF.trans n11).trans n12⟩
      · have dsb : (s == 0) = false := by simpa using hs0
        clear hs0
        go_wp2_with fail
        have nF := (nw10.setCell (p := ⟨w3.heap.size, 0, none⟩) hw3 (.int .i64 (packWay (evenS f s n)))).setCell (p := ⟨w3.heap.size, 1, none⟩) hw3 (.slice A10 m10 c10)
        have oF := (o10.setBelow (p := ⟨w3.heap.size, 0, none⟩) hlt9 (.int .i64 (packWay (evenS f s n)))).setBelow (p := ⟨w3.heap.size, 1, none⟩) hlt9 (.slice A10 m10 c10)
        refine (Unpacked_any (packWay (evenS f s n)) A10 m10 c10 (packNums (evenS f s n)) _ (by omega) oF.le.1 oF.rd).mono ?_
        rintro e w11 ⟨A11, m11, c11, rfl, r11, n11⟩
        rw [HTB2.out] at r11 ⊢
        have hm11 : m11 ≤ 1000000 := by have h6 : (evenS f s n).length = m11 := r11.len; rw [HEL.out] at h6; omega
        have reF := re10.setBelow (p := ⟨w3.heap.size, 0, none⟩) hw7 (.int .i64 (packWay (evenS f s n)))
        have reG := (reF.setBelow (p := ⟨w3.heap.size, 1, none⟩) hw7 (.slice A10 m10 c10)).keep n11
        go_wp2_with fail
        refine (ints_is true A11 A' m11 n c11 cap' (evenS f s n) (evenS f s n) _ hm11 (by omega) r11 reG.rd (by simp)).mono ?_
        rintro e w12 ⟨rfl, n12⟩
        go_wp2_with fail
        go_ret
        exact ⟨rfl, (nF.trans n11).trans n12⟩

set_option maxRecDepth 100000 in
set_option maxHeartbeats 1000000 in
theorem back_any (A : Option Addr) (n cap : Nat) (xs : List Int) (f s : Int) (w : World) (hr : Rd w 1 encI A n xs) :
    Calls Try.prog 8 #[.slice A n cap, .int .i64 f, .int .i64 s] w fun e w' => e = .returned (.bool true) ∧ New w w' := by
  by_cases hn : n ≤ 200
  · by_cases h0 : serE xs = 0
    · exact back_in A n cap xs f s w hn hr h0
    · have HR := Lib.hid hr; clear hr
      have hb : (serE xs != 0) = true := by simpa using h0
      clear h0
      go_enter Try.func8, Try.ntmps8
      go_wp2_with fail
      refine (awake_any _).mono ?_
      rintro e w1 ⟨rfl, n1⟩
      go_wp2_with fail
      refine (refSer_any A n cap xs _ (by omega) (HR.out.keep n1)).mono ?_
      rintro e w' ⟨rfl, rfl⟩
      go_wp2_with fail
      go_ret
      exact ⟨rfl, n1⟩
  · have hl := hr.len
    have HL := Lib.hid hl
    clear hr hl
    go_enter Try.func8, Try.ntmps8
    go_wp2_with fail
    refine (awake_any _).mono ?_
    rintro e w1 ⟨rfl, n1⟩
    go_wp2_with fail
    refine (refSer_big A n cap xs _ HL.out (by omega)).mono ?_
    rintro e w' ⟨rfl, rfl⟩
    go_wp2_with fail
    go_ret
    exact ⟨rfl, n1⟩
end Go.Proofs.Ytjpkcmlepjbamaa
