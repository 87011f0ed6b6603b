/- The walk of StationClocks. -/
import Derived.Test.YtjpkcmlepjbamaaW22
namespace Go.Proofs.Ytjpkcmlepjbamaa
open Go.RowKit Go.Sky

theorem neq_rng (a b c d : Int) (W : World) : (binOp .neq 38 (.agg #[.int .i64 a, .int .i64 b]) (.agg #[.int .i64 c, .int .i64 d])).run Try.prog W = .ok (.bool (!(a == c && b == d))) W := by
  simp only [binOp]
  simp [Op.equal, Op.maxDepth, eql_rng, guard_rng, go_sem]

theorem offBy_one (x : Exch) (d t : Int) : offByS x d t = if exErr x = 0 then (if timeE d t = 0 then (offBy x d t, 0) else ((0, 0), timeE d t)) else ((0, 0), exErr x) := by
  unfold offByS
  rw [exE_one]
  by_cases h : exErr x = 0
  · rw [if_pos h, if_pos h]
  · rw [if_neg h, if_neg h, if_neg h]

set_option maxRecDepth 100000 in
set_option maxHeartbeats 8000000 in
theorem clocks_in (A : Option Addr) (n cap : Nat) (xs : List Exch) (d t : Int) (w : World) (hn : n ≤ 22) (hr : Rd w 3 encX A n xs) :
    Calls Try.prog 5 #[.slice A n cap, .int .i64 d, .int .i64 t] w fun e w' => e = .returned (.bool true) ∧ New w w' := by
  have HR := Lib.hid hr; clear hr
  have d22 : decide ((n : Int) ≤ 22) = true := by simp; omega
  obtain ⟨⟨⟨rl, rh⟩, re⟩, hZ⟩ : ∃ Z, offAtS xs d t = Z := ⟨_, rfl⟩
  have HZ := Lib.hid hZ
  obtain ⟨⟨⟨tl, th⟩, te⟩, hT⟩ : ∃ Z, trueAtS xs d t = Z := ⟨_, rfl⟩
  have HT := Lib.hid hT
  clear hZ hT
  go_enter Try.func5, Try.ntmps5
  go_wp2_with fail
  refine (awake_any _).mono ?_
  rintro e w1 ⟨rfl, n1⟩
  go_wp2_with fail
  refine (few_any A n cap _).mono ?_
  rintro e w' ⟨rfl, rfl⟩
  rw [d22]
  go_wp2_with fail
  refine (copyX_any A n cap xs _ (by omega) (HR.out.keep n1)).mono ?_
  rintro e w2 ⟨A2, c2, rfl, hown2, n2⟩
  go_wp2_with fail
  refine (OffsetAt_any A2 n c2 xs d t _ (by omega) hown2.rd).mono ?_
  rintro e w3 ⟨rfl, n3⟩
  rw [HZ.out]
  have hr3 := Bx.mk w3 38 #[.int .i64 rl, .int .i64 rh]
  have hN3 := ((n1.trans n2).trans n3).alloc (.cells #[.int .i64 rl, .int .i64 rh] 38)
  clear n1 n2 n3 hown2
  go_wp2_with fail
  refine (copyX_any A n cap xs _ (by omega) (HR.out.keep hN3)).mono ?_
  rintro e w4 ⟨A4, c4, rfl, hown4, n4⟩
  go_wp2_with fail
  refine (TrueAt_any A4 n c4 xs d t _ (by omega) hown4.rd true_bd).mono ?_
  rintro e w5 ⟨rfl, n5⟩
  rw [HT.out]
  have hr5 := ((hr3.keep n4).keep n5).alloc (.cells #[.int .i64 tl, .int .i64 th] 38)
  have hx5 := Bx.mk w5 38 #[.int .i64 tl, .int .i64 th]
  have hN5 := ((hN3.trans n4).trans n5).alloc (.cells #[.int .i64 tl, .int .i64 th] 38)
  clear hr3 hN3 n4 n5 hown4
  go_wp2_with fail
  go_loopw [11, 12, 13, 14] (fun i _ _ _ wr => ∃ k : Nat, k ≤ n ∧ i = .int .i64 k ∧ Bx wr w3.heap.size 38 #[.int .i64 rl, .int .i64 rh] ∧ Bx wr w5.heap.size 38 #[.int .i64 tl, .int .i64 th] ∧ New w wr) (fun i _ _ _ _ => n - (intOf i).toNat)
  case atStart => exact ⟨0, by omega, rfl, hr5, hx5, hN5⟩
  case round =>
    clear hr5 hx5 hN5
    obtain ⟨k, hk, rfl, hr5, hx5, hN5⟩ := hrel
    by_cases hlt : k < n
    · obtain ⟨b, o, x, rfl, hb, hx, hc⟩ := (HR.out.keep hN5).at_ hlt
      have g0 := hc 0 _ rfl
      have g1 := hc 1 _ rfl
      have g2 := hc 2 _ rfl
      simp only [Nat.add_zero] at g0
      have l1 : (0 : Int) ≤ (k : Int) := by omega
      have l2 : (k : Int) < (n : Int) := by omega
      have HO := Lib.hid (offBy_one x d t)
      clear hx hc
      have HR2 := Lib.hid (HR.out.keep hN5)
      go_wp2_with fail
      refine (refEx_any x _).mono ?_
      rintro e w6 ⟨rfl, n6⟩
      have q0 := n6.cell g0
      have q1 := n6.cell g1
      have q2 := n6.cell g2
      clear g0 g1 g2
      go_wp2_with fail
      refine (checkEx_any x _).mono ?_
      rintro e w7 ⟨rfl, n7⟩
      have g0 := n7.cell q0
      have g1 := n7.cell q1
      have g2 := n7.cell q2
      have hb7 : b < w7.heap.size := Nat.lt_of_lt_of_le hb (n6.trans n7).size
      have hr7 := (hr5.keep n6).keep n7
      have hx7 := (hx5.keep n6).keep n7
      have hN7 := (hN5.trans n6).trans n7
      clear q0 q1 q2 hr5 hx5 hN5 n6 n7
      by_cases hE : exErr x = 0
      · obtain ⟨m1, m2, m3, m4, m5⟩ := exErr_zero hE
        have HE := Lib.hid hE
        rw [hE]
        clear hE
        go_wp2_with fail
        refine (driftErr_any d t _).mono ?_
        rintro e w' ⟨rfl, rfl⟩
        go_wp2_with fail
        refine (OffsetBy_any x d t _).mono ?_
        rintro e w8 ⟨rfl, n8⟩
        by_cases hD : timeE d t = 0
        · obtain ⟨t1, t2, t3, t4⟩ := timeE_zero hD
          have HV := Lib.hid (show offByS x d t = (offBy x d t, 0) by rw [HO.out, if_pos HE.out, if_pos hD])
          rw [HV.out, hD]
          clear hD
          have q0 := n8.cell g0
          have q1 := n8.cell g1
          have q2 := n8.cell g2
          have hr8 := hr7.keep n8
          have hx8 := hx7.keep n8
          have hN8 := hN7.trans n8
          have hb8 : b < w8.heap.size := Nat.lt_of_lt_of_le hb7 n8.size
          have e3 := neq_rng
          have HOF : Hid (∀ W, Calls Try.prog 32 #[.agg #[.int .i64 x.s, .int .i64 x.t, .int .i64 x.r], .int .i64 d, .int .i64 t] W fun e w' => e = .returned (.agg #[.int .i64 (offBy x d t).1, .int .i64 (offBy x d t).2]) ∧ New W w') :=
            Lib.hid (fun W => refOff_any x.s x.t x.r d t W (by omega) (by omega) (by omega) (by omega) (by omega) (by omega) (by omega) (by omega) (by omega))
          generalize offBy x d t = y at *
          clear g0 g1 g2 n8 hr7 hx7 hN7
          go_wp2_with fail
          (refine wp_region_new (by kernel_rfl) (by kernel_rfl) ?_; (repeat (go_big_quiet_step ((go_at_call 32; exact quiet_new (HOF.out _))))); refine wpQuiet_nil ?_)
          intro w9 n9
          go_wp2_with fail
          go_roundw
          case rel => exact ⟨k + 1, by omega, by go_num, (hr8.alloc _).keep n9, (hx8.alloc _).keep n9, (hN8.alloc _).trans n9⟩
          case measure => simp [intOf]; omega
        · have HV := Lib.hid (show offByS x d t = ((0, 0), timeE d t) by rw [HO.out, if_pos HE.out, if_neg hD])
          rw [HV.out]
          have b1 : (timeE d t == 0) = false := by simpa using hD
          have b2 : (timeE d t != 0) = true := by simpa using hD
          have hr8 := hr7.keep n8
          have hx8 := hx7.keep n8
          have hN8 := hN7.trans n8
          have e3 := neq_rng
          generalize timeE d t = D at *
          clear hD g0 g1 g2 n8 hr7 hx7 hN7
          go_wp2_with fail
          (refine wp_region_new (by kernel_rfl) (by kernel_rfl) ?_; (repeat (go_big_quiet_step ((fail)))); refine wpQuiet_nil ?_)
          intro w9 n9
          go_wp2_with fail
          go_roundw
          case rel => exact ⟨k + 1, by omega, by go_num, (hr8.alloc _).keep n9, (hx8.alloc _).keep n9, (hN8.alloc _).trans n9⟩
          case measure => simp [intOf]; omega
      · have HV := Lib.hid (show offByS x d t = ((0, 0), exErr x) by rw [HO.out, if_neg hE])
        obtain ⟨D, hD⟩ : ∃ D, exErr x = D := ⟨_, rfl⟩
        rw [hD] at HV hE ⊢
        have b1 : (D == 0) = false := by simpa using hE
        have b2 : (D != 0) = true := by simpa using hE
        clear hE hD
        go_wp2_with fail
        refine (OffsetBy_any x d t _).mono ?_
        rintro e w8 ⟨rfl, n8⟩
        rw [HV.out]
        have hr8 := hr7.keep n8
        have hx8 := hx7.keep n8
        have hN8 := hN7.trans n8
        have e3 := neq_rng
        clear g0 g1 g2 n8 hr7 hx7 hN7
        go_wp2_with fail
        (refine wp_region_new (by kernel_rfl) (by kernel_rfl) ?_; (repeat (go_big_quiet_step ((fail)))); refine wpQuiet_nil ?_)
        intro w9 n9
        go_wp2_with fail
        go_roundw
        case rel => exact ⟨k + 1, by omega, by go_num, (hr8.alloc _).keep n9, (hx8.alloc _).keep n9, (hN8.alloc _).trans n9⟩
        case measure => simp [intOf]; omega
    · obtain rfl : k = n := by omega
      go_wp2_with fail
      refine (clockErr_any A k cap xs d t _ (HR.out.keep hN5)).mono ?_
      rintro e w6 ⟨rfl, n6⟩
      have hr6 := hr5.keep n6
      have hx6 := hx5.keep n6
      have hN6 := hN5.trans n6
      clear hr5 hx5 hN5 n6
      have e3 := eql_rng
      have e4 := guard_rng
      have r0 : w6.cell? _ = some _ := hr6.cell 0
      have r1 : w6.cell? _ = some _ := hr6.cell 1
      have x0 : w6.cell? _ = some _ := hx6.cell 0
      have x1 : w6.cell? _ = some _ := hx6.cell 1
      have lr := hr6.lt
      have lx := hx6.lt
      rcases clocks_cases HZ.out HT.out with ⟨h0, z1, z2, z3, y1, y2, y3⟩ | ⟨h0, h1, z1, z2, z3, y1, y2, y3, v1, v2, v3, v4⟩ | ⟨h0, h1, z1, z2, z3, y1, y2, y3⟩
      · generalize offsErr xs d t = D at *
        have b1 : (D == 0) = false := by simpa using h0
        have b2 : (D != 0) = true := by simpa using h0
        have s1 : (rl == 0) = true := by simpa using z1
        have s2 : (rh == 0) = true := by simpa using z2
        have s3 : (re == D) = true := by simpa using z3
        have s4 : (tl == 0) = true := by simpa using y1
        have s5 : (th == 0) = true := by simpa using y2
        have s6 : (te == D) = true := by simpa using y3
        clear h0 z1 z2 z3 y1 y2 y3
        go_wp2_with fail
        go_ret
        exact ⟨rfl, hN6.alloc _⟩
      · have HO := Lib.hid h0
        rw [h0]
        have s7 : decide ((comS (xs.map (offBy · d t))).1 ≤ (comS (xs.map (offBy · d t))).2) = true := by simpa using h1
        have HC := Lib.hid (refOffAt_any A k cap xs d t (w6.alloc (.cells #[.int .i64 0, .int .i64 0] 38)) (by omega) (HR.out.keep (hN6.alloc _)) h0)
        rw [s7] at HC
        generalize comS (xs.map (offBy · d t)) = c at *
        have s1 : (rl == c.1) = true := by simpa using z1
        have s2 : (rh == c.2) = true := by simpa using z2
        have s3 : (re == 0) = true := by simpa using z3
        have s4 : (tl == t + c.1) = true := by simpa using y1
        have s5 : (th == t + c.2) = true := by simpa using y2
        have s6 : (te == 0) = true := by simpa using y3
        clear h0 h1 z1 z2 z3 y1 y2 y3 s7
        go_wp2_with fail
        refine HC.out.mono ?_
        rintro e w7 ⟨rfl, n7⟩
        have hw7 := (Bx.mk w6 38 #[.int .i64 0, .int .i64 0]).keep n7
        have hr7 := (hr6.alloc _).keep n7
        have hx7 := (hx6.alloc _).keep n7
        have hN7 := (hN6.alloc _).trans n7
        have m1 : w3.heap.size ≠ w6.heap.size := by omega
        have m2 : w5.heap.size ≠ w6.heap.size := by omega
        have m3 : w6.heap.size ≠ w3.heap.size := by omega
        have m4 : w6.heap.size ≠ w5.heap.size := by omega
        clear r0 r1 x0 x1 hr6 hx6 n7
        have r0 : w7.cell? _ = some _ := hr7.cell 0
        have r1 : w7.cell? _ = some _ := hr7.cell 1
        have x0 : w7.cell? _ = some _ := hx7.cell 0
        have x1 : w7.cell? _ = some _ := hx7.cell 1
        have y0 : w7.cell? _ = some _ := hw7.cell 0
        have y1 : w7.cell? _ = some _ := hw7.cell 1
        have f0 := hw7.free 0
        have f1 := hw7.free 1
        go_wp2_with fail
        go_ret
        exact ⟨rfl, (hN7.setCell hN6.size _).setCell hN6.size _⟩
      · have s7 : decide ((comS (xs.map (offBy · d t))).1 ≤ (comS (xs.map (offBy · d t))).2) = false := by simpa using h1
        have HC := Lib.hid (refOffAt_any A k cap xs d t (w6.alloc (.cells #[.int .i64 0, .int .i64 0] 38)) (by omega) (HR.out.keep (hN6.alloc _)) h0)
        rw [s7] at HC
        rw [h0]
        generalize comS (xs.map (offBy · d t)) = c at *
        have s1 : (rl == 0) = true := by simpa using z1
        have s2 : (rh == 0) = true := by simpa using z2
        have s3 : (re == 13) = true := by simpa using z3
        have s4 : (tl == 0) = true := by simpa using y1
        have s5 : (th == 0) = true := by simpa using y2
        have s6 : (te == 13) = true := by simpa using y3
        clear h0 h1 z1 z2 z3 y1 y2 y3 s7
        go_wp2_with fail
        refine HC.out.mono ?_
        rintro e w7 ⟨rfl, n7⟩
        have hw7 := (Bx.mk w6 38 #[.int .i64 0, .int .i64 0]).keep n7
        have hr7 := (hr6.alloc _).keep n7
        have hx7 := (hx6.alloc _).keep n7
        have hN7 := (hN6.alloc _).trans n7
        have m1 : w3.heap.size ≠ w6.heap.size := by omega
        have m2 : w5.heap.size ≠ w6.heap.size := by omega
        have m3 : w6.heap.size ≠ w3.heap.size := by omega
        have m4 : w6.heap.size ≠ w5.heap.size := by omega
        clear r0 r1 x0 x1 hr6 hx6 n7
        have r0 : w7.cell? _ = some _ := hr7.cell 0
        have r1 : w7.cell? _ = some _ := hr7.cell 1
        have x0 : w7.cell? _ = some _ := hx7.cell 0
        have x1 : w7.cell? _ = some _ := hx7.cell 1
        have y0 : w7.cell? _ = some _ := hw7.cell 0
        have y1 : w7.cell? _ = some _ := hw7.cell 1
        have f0 := hw7.free 0
        have f1 := hw7.free 1
        go_wp2_with fail
        go_ret
        exact ⟨rfl, (hN7.setCell hN6.size _).setCell hN6.size _⟩

theorem clocks_any (A : Option Addr) (n cap : Nat) (xs : List Exch) (d t : Int) (w : World) (hr : Rd w 3 encX A n xs) :
    Calls Try.prog 5 #[.slice A n cap, .int .i64 d, .int .i64 t] w fun e w' => e = .returned (.bool true) ∧ New w w' := by
  by_cases hn : n ≤ 22
  · exact clocks_in A n cap xs d t w hn hr
  · have d22 : decide ((n : Int) ≤ 22) = false := by simp; omega
    clear hn
    go_enter Try.func5, Try.ntmps5
    go_wp2_with fail
    refine (awake_any _).mono ?_
    rintro e w1 ⟨rfl, n1⟩
    go_wp2_with fail
    refine (few_any A n cap _).mono ?_
    rintro e w' ⟨rfl, rfl⟩
    rw [d22]
    go_wp2_with fail
    go_ret
    exact ⟨rfl, n1⟩
end Go.Proofs.Ytjpkcmlepjbamaa
