/- The walk of StationContradicts. -/
import Derived.Test.YtjpkcmlepjbamaaW26
import Derived.Test.YtjpkcmlepjbamaaW23
namespace Go.Proofs.Ytjpkcmlepjbamaa
open Go.RowKit Go.Sky

theorem eq_pair (a b c d : Int) (W : World) : (binOp .eql 52 (.agg #[.int .i64 a, .int .i64 b]) (.agg #[.int .i64 c, .int .i64 d])).run Try.prog W = .ok (.bool (a == c && b == d)) W := by
  simp only [binOp]
  simp [Op.equal, Op.maxDepth, eql_pair, guard_pair, go_sem]

/-- The three ways the law may go. -/
theorem contra_three (xs : List Exch) (d t : Int) :
    (offsErr xs d t ≠ 0 ∧ contraS xs d t = ((0, 0), offsErr xs d t)) ∨
    (offsErr xs d t = 0 ∧ (pairS (xs.map (offBy · d t))).2 = false ∧ contraS xs d t = ((0, 0), 12) ∧ (offAtS xs d t).2 = 0) ∨
    (offsErr xs d t = 0 ∧ (pairS (xs.map (offBy · d t))).2 = true ∧ contraS xs d t = ((pairS (xs.map (offBy · d t))).1, 0) ∧ (offAtS xs d t).2 = 13) := by
  by_cases h0 : offsErr xs d t = 0
  · obtain ⟨p1, p2, p3⟩ := offs_parts h0
    have hc := contra_pair xs d t h0
    have hp := pair_com (l := xs.map (offBy · d t)) (by simpa using p3) (fun r hr => by
      obtain ⟨x, hx, rfl⟩ := List.mem_map.1 hr
      exact off_le (p1 x hx) p2)
    have ho : offAtS xs d t = if (comS (xs.map (offBy · d t))).1 ≤ (comS (xs.map (offBy · d t))).2 then (comS (xs.map (offBy · d t)), 0) else ((0, 0), 13) := by unfold offAtS; rw [if_pos h0]
    by_cases h1 : (comS (xs.map (offBy · d t))).1 ≤ (comS (xs.map (offBy · d t))).2
    · rw [decide_eq_true h1] at hp
      exact .inr (.inl ⟨h0, hp, by rw [hc, hp]; rfl, by rw [ho, if_pos h1]⟩)
    · rw [decide_eq_false h1] at hp
      exact .inr (.inr ⟨h0, hp, by rw [hc, hp]; rfl, by rw [ho, if_neg h1]⟩)
  · exact .inl ⟨h0, contra_bad h0⟩

set_option maxRecDepth 100000 in
set_option maxHeartbeats 4000000 in
theorem contradicts_in (A : Option Addr) (n cap : Nat) (xs : List Exch) (d t : Int) (w : World) (hn : n ≤ 22) (hr : Rd w 3 encX A n xs) :
    Calls Try.prog 6 #[.slice A n cap, .int .i64 d, .int .i64 t] w fun e w' => e = .returned (.bool true) ∧ New w w' := by
  have HR := Lib.hid hr; clear hr
  have H3 := Lib.hid (contra_three xs d t)
  have d22 : decide ((n : Int) ≤ 22) = true := by simp; omega
  obtain ⟨⟨⟨ci, cj⟩, ce⟩, hZ⟩ : ∃ Z, contraS xs d t = Z := ⟨_, rfl⟩
  have HZ := Lib.hid hZ
  obtain ⟨⟨⟨tl, th⟩, te⟩, hT⟩ : ∃ Z, offAtS xs d t = Z := ⟨_, rfl⟩
  have HT := Lib.hid hT
  clear hZ hT
  go_enter Try.func6, Try.ntmps6
  go_wp2_with fail
  refine (awake_any _).mono ?_
  rintro e w1 ⟨rfl, n1⟩
  go_wp2_with fail
  refine (few_any A n cap _).mono ?_
  rintro e w' ⟨rfl, rfl⟩
  rw [d22]
  go_wp2_with fail
  refine (copyX_any A n cap xs _ (by omega) (HR.out.keep n1)).mono ?_
  rintro e w2 ⟨A2, c2, rfl, hown2, n2⟩
  go_wp2_with fail
  refine (Contradicting_any A2 n c2 xs d t _ (by omega) hown2.rd).mono ?_
  rintro e w3 ⟨rfl, n3⟩
  rw [HZ.out]
  have hr3 := Bx.mk w3 52 #[.int .i64 ci, .int .i64 cj]
  have hN3 := ((n1.trans n2).trans n3).alloc (.cells #[.int .i64 ci, .int .i64 cj] 52)
  clear n1 n2 n3 hown2
  go_wp2_with fail
  refine (copyX_any A n cap xs _ (by omega) (HR.out.keep hN3)).mono ?_
  rintro e w4 ⟨A4, c4, rfl, hown4, n4⟩
  go_wp2_with fail
  refine (OffsetAt_any A4 n c4 xs d t _ (by omega) hown4.rd).mono ?_
  rintro e w5 ⟨rfl, n5⟩
  rw [HT.out]
  have hr5 := ((hr3.keep n4).keep n5).alloc (.cells #[.int .i64 tl, .int .i64 th] 38)
  have hN5 := ((hN3.trans n4).trans n5).alloc (.cells #[.int .i64 tl, .int .i64 th] 38)
  clear hr3 hN3 n4 n5 hown4
  go_wp2_with fail
  refine (clockErr_any A n cap xs d t _ (HR.out.keep hN5)).mono ?_
  rintro e w6 ⟨rfl, n6⟩
  have hr6 := hr5.keep n6
  have hN6 := hN5.trans n6
  clear hr5 hN5 n6
  have c0 : World.cell? _ _ = some _ := hr6.cell 0
  have c1 : World.cell? _ _ = some _ := hr6.cell 1
  have l6 := hr6.lt
  have e3 := eq_pair
  obtain ⟨h0, hc⟩ | ⟨h0, hp, hc, ho⟩ | ⟨h0, hp, hc, ho⟩ := H3.out
  · obtain ⟨h1, h2, h3⟩ : ci = 0 ∧ cj = 0 ∧ ce = offsErr xs d t := by
      rw [HZ.out] at hc; injection hc with hc hc3; injection hc with hc1 hc2; exact ⟨hc1, hc2, hc3⟩
    subst h1 h2 h3
    clear hc
    go_wp2_with fail
    go_ret
    exact ⟨rfl, hN6⟩
  · obtain ⟨h1, h2, h3⟩ : ci = 0 ∧ cj = 0 ∧ ce = 12 := by
      rw [HZ.out] at hc; injection hc with hc hc3; injection hc with hc1 hc2; exact ⟨hc1, hc2, hc3⟩
    obtain rfl : te = 0 := by rw [HT.out] at ho; exact ho
    subst h1 h2 h3
    clear hc ho
    rw [h0]
    have H0 := Lib.hid h0
    clear h0
    go_wp2_with fail
    refine (refPair_any A n cap xs d t _ (by omega) (HR.out.keep hN6) H0.out).mono ?_
    rintro e w7 ⟨rfl, n7⟩
    rw [hp]
    have hr7 := (hr6.keep n7).alloc (.cells #[.int .i64 (pairS (xs.map (offBy · d t))).1.1, .int .i64 (pairS (xs.map (offBy · d t))).1.2] 52)
    have hN7 := (hN6.trans n7).alloc (.cells #[.int .i64 (pairS (xs.map (offBy · d t))).1.1, .int .i64 (pairS (xs.map (offBy · d t))).1.2] 52)
    clear c0 c1 l6 hr6 hN6 n7
    have c0 : World.cell? _ _ = some _ := hr7.cell 0
    have c1 : World.cell? _ _ = some _ := hr7.cell 1
    have l7 := hr7.lt
    go_wp2_with fail
    go_ret
    exact ⟨rfl, hN7⟩
  · obtain ⟨⟨⟨pi, pj⟩, pf⟩, hP⟩ : ∃ Z, pairS (xs.map (offBy · d t)) = Z := ⟨_, rfl⟩
    rw [hP] at hp hc
    obtain ⟨h1, h2, h3⟩ : ci = pi ∧ cj = pj ∧ ce = 0 := by
      rw [HZ.out] at hc; injection hc with hc hc3; injection hc with hc1 hc2; exact ⟨hc1, hc2, hc3⟩
    obtain rfl : te = 13 := by rw [HT.out] at ho; exact ho
    obtain rfl : pf = true := hp
    subst h1 h2 h3
    have HPP := Lib.hid hP
    clear hc hP
    rw [h0]
    have H0 := Lib.hid h0
    clear h0
    go_wp2_with fail
    refine (refPair_any A n cap xs d t _ (by omega) (HR.out.keep hN6) H0.out).mono ?_
    rintro e w7 ⟨rfl, n7⟩
    rw [HPP.out]
    have hr7 := (hr6.keep n7).alloc (.cells #[.int .i64 ci, .int .i64 cj] 52)
    have hp7 := Bx.mk w7 52 #[.int .i64 ci, .int .i64 cj]
    have hN7 := (hN6.trans n7).alloc (.cells #[.int .i64 ci, .int .i64 cj] 52)
    clear c0 c1 l6 hr6 hN6 n7
    have c0 : World.cell? _ _ = some _ := hr7.cell 0
    have c1 : World.cell? _ _ = some _ := hr7.cell 1
    have l7 := hr7.lt
    have c2 : World.cell? _ _ = some _ := hp7.cell 0
    have c3 : World.cell? _ _ = some _ := hp7.cell 1
    have l8 := hp7.lt
    go_wp2_with fail
    go_ret
    exact ⟨rfl, hN7⟩

theorem contradicts_any (A : Option Addr) (n cap : Nat) (xs : List Exch) (d t : Int) (w : World) (hr : Rd w 3 encX A n xs) :
    Calls Try.prog 6 #[.slice A n cap, .int .i64 d, .int .i64 t] w fun e w' => e = .returned (.bool true) ∧ New w w' := by
  by_cases hn : n ≤ 22
  · exact contradicts_in A n cap xs d t w hn hr
  · have d22 : decide ((n : Int) ≤ 22) = false := by simp; omega
    clear hn
    go_enter Try.func6, Try.ntmps6
    go_wp2_with fail
    refine (awake_any _).mono ?_
    rintro e w1 ⟨rfl, n1⟩
    go_wp2_with fail
    refine (few_any A n cap _).mono ?_
    rintro e w' ⟨rfl, rfl⟩
    rw [d22]
    go_wp2_with fail
    go_ret
    exact ⟨rfl, n1⟩
end Go.Proofs.Ytjpkcmlepjbamaa
