/- Contracts: OffsetAt, TrueAt, OffsetBy. -/
import Derived.Test.YtjpkcmlepjbamaaW3
namespace Go.Proofs.Ytjpkcmlepjbamaa
open Go.RowKit Go.Sky

theorem offAt_err {xs : List Exch} {d t : Int} (h : offsErr xs d t ≠ 0) : offAtS xs d t = ((0, 0), offsErr xs d t) := by unfold offAtS; rw [if_neg h]
theorem offAt_clash {xs : List Exch} {d t : Int} (h : offsErr xs d t = 0) (h2 : ¬ (comS (xs.map (offBy · d t))).1 ≤ (comS (xs.map (offBy · d t))).2) : offAtS xs d t = ((0, 0), 13) := by unfold offAtS; rw [if_pos h, if_neg h2]
theorem offAt_ok {xs : List Exch} {d t : Int} (h : offsErr xs d t = 0) (h2 : (comS (xs.map (offBy · d t))).1 ≤ (comS (xs.map (offBy · d t))).2) : offAtS xs d t = (comS (xs.map (offBy · d t)), 0) := by unfold offAtS; rw [if_pos h, if_pos h2]


set_option maxHeartbeats 1000000 in
theorem OffsetAt_any (A : Option Addr) (n cap : Nat) (xs : List Exch) (d t : Int) (w : World) (hn : n ≤ 1000) (hr : Rd w 3 encX A n xs) :
    Calls Try.prog 22 #[.slice A n cap, .int .i64 d, .int .i64 t] w fun e w' =>
      e = .returned (.tuple #[.agg #[.int .i64 (offAtS xs d t).1.1, .int .i64 (offAtS xs d t).1.2], .int .i64 (offAtS xs d t).2]) ∧ New w w' := by
  have HL := Lib.hid hr.len
  have HR := Lib.hid hr; clear hr
  go_enter Try.func22, Try.ntmps22
  go_wp2_with fail
  refine (offsets_any A n cap xs d t _ hn (HR.out.keep ((New.refl _).alloc _))).mono ?_
  rintro e w1 ⟨hn1, ⟨hE, rfl⟩ | ⟨hE, A1, cap1, rfl, hown⟩⟩
  · have HE := Lib.hid (offAt_err hE)
    have b1 : (offsErr xs d t != 0) = true := by simpa using hE
    clear hE
    have hb := (Bx.mk w 38 #[.int .i64 0, .int .i64 0]).keep hn1
    have c0 : w1.cell? _ = some _ := hb.cell 0
    have c1 : w1.cell? _ = some _ := hb.cell 1
    have f0 := hb.free 0
    have f1 := hb.free 1
    go_wp2
    rw [HE.out]
    exact bodyPost_ret (v := .tuple #[.agg #[.int .i64 0, .int .i64 0], .int .i64 (offsErr xs d t)]) (by simp [results, Try.results22, go_sem, c0, c1]) rfl ⟨rfl, ((hn2of hn1).setCell (by simp) _).setCell (by simp) _⟩
  · have b1 : (offsErr xs d t != 0) = false := by simpa using hE
    have h20 := (offsErr_zero HL.out hE).2.2
    have hpos := offsErr_pos HL.out hE
    have HE := Lib.hid hE
    clear hE
    have hl : (xs.map (offBy · d t)).length = xs.length := by simp
    have HD := Lib.hid hown.rd; clear hown
    have hb := (Bx.mk w 38 #[.int .i64 0, .int .i64 0]).keep hn1
    rw [HL.out] at HD ⊢
    obtain ⟨c, hc⟩ : ∃ c, comS (xs.map (offBy · d t)) = c := ⟨_, rfl⟩
    have HC := Lib.hid hc
    have hN := hn2of hn1
    by_cases hok : c.1 ≤ c.2
    · have HO := Lib.hid (offAt_ok HE.out (by rw [hc]; exact hok))
      have d1 := decide_eq_true hok
      clear hok hl hc
      go_wp2_with fail
      refine (common_any A1 n cap1 _ _ hpos hn HD.out).mono ?_
      rintro e w2 ⟨he, hn2⟩
      rw [HC.out, d1] at he
      subst he
      have hb2 := hb.keep hn2
      have c0 : w2.cell? _ = some _ := hb2.cell 0
      have c1 : w2.cell? _ = some _ := hb2.cell 1
      have f0 := hb2.free 0
      have f1 := hb2.free 1
      have hlt := hb2.lt
      clear hb hb2
      go_wp2
      rw [HO.out, HC.out]
      exact bodyPost_ret (v := .tuple #[.agg #[.int .i64 c.1, .int .i64 c.2], .int .i64 0]) (by simp [results, Try.results22, go_sem, c0, c1, hlt]) rfl ⟨rfl, (by repeat (first | exact New.refl _ | assumption | apply New.drew | apply New.alloc | (refine New.setCell ?_ (by simp; try omega) _) | (refine New.trans ?_ (by assumption))))⟩
    · have HO := Lib.hid (offAt_clash HE.out (by rw [hc]; exact hok))
      have d1 := decide_eq_false hok
      clear hok hl hc
      go_wp2_with fail
      refine (common_any A1 n cap1 _ _ hpos hn HD.out).mono ?_
      rintro e w2 ⟨he, hn2⟩
      rw [HC.out, d1] at he
      subst he
      have hb2 := hb.keep hn2
      have c0 : w2.cell? _ = some _ := hb2.cell 0
      have c1 : w2.cell? _ = some _ := hb2.cell 1
      have f0 := hb2.free 0
      have f1 := hb2.free 1
      have hlt := hb2.lt
      clear hb hb2
      go_wp2
      rw [HO.out]
      exact bodyPost_ret (v := .tuple #[.agg #[.int .i64 0, .int .i64 0], .int .i64 13]) (by simp [results, Try.results22, go_sem, c0, c1, hlt]) rfl ⟨rfl, (by repeat (first | exact New.refl _ | assumption | apply New.drew | apply New.alloc | (refine New.setCell ?_ (by simp; try omega) _) | (refine New.trans ?_ (by assumption))))⟩

theorem exE_one (x : Exch) (d t : Int) : firstE [exErr x, timeE d t] = if exErr x = 0 then timeE d t else exErr x := firstE_two _ _

set_option maxHeartbeats 1000000 in
theorem OffsetBy_any (x : Exch) (d t : Int) (w : World) :
    Calls Try.prog 31 #[.agg #[.int .i64 x.s, .int .i64 x.t, .int .i64 x.r], .int .i64 d, .int .i64 t] w fun e w' =>
      e = .returned (.tuple #[.agg #[.int .i64 (offByS x d t).1.1, .int .i64 (offByS x d t).1.2], .int .i64 (offByS x d t).2]) ∧ New w w' := by
  by_cases hE : firstE [exErr x, timeE d t] = 0
  · have b1 : (firstE [exErr x, timeE d t] != 0) = false := by simpa using hE
    have h2 : exErr x = 0 ∧ timeE d t = 0 := by
      rw [exE_one] at hE
      by_cases h : exErr x = 0
      · rw [if_pos h] at hE; exact ⟨h, hE⟩
      · rw [if_neg h] at hE; exact absurd hE h
    obtain ⟨e1, e2, e3, e4, e5⟩ := exErr_zero h2.1
    obtain ⟨t1, t2, t3, t4⟩ := timeE_zero h2.2
    have HO := Lib.hid (show offByS x d t = (offBy x d t, 0) by unfold offByS; rw [if_pos hE])
    clear hE h2
    go_enter Try.func31, Try.ntmps31
    go_wp2_with fail
    refine (checkEx_any x _).mono ?_
    rintro e w1 ⟨rfl, hn1⟩
    go_wp2_with fail
    refine (timeErr_any _ _ _).mono ?_
    rintro e w2 ⟨rfl, hn2⟩
    have hb0 := ((Bx.mk w 35 #[.int .i64 x.s, .int .i64 x.t, .int .i64 x.r]).alloc (.cells #[.int .i64 0, .int .i64 0] 38)).keep (hn1.trans hn2)
    have hb1 := (Bx.mk_at (w.alloc (.cells #[.int .i64 x.s, .int .i64 x.t, .int .i64 x.r] 35)) 38 #[.int .i64 0, .int .i64 0] (w.heap.size + 1) (by simp)).keep (hn1.trans hn2)
    have hN := hn2of (hn2of (hn1.trans hn2))
    clear hn1 hn2
    have a0 : w2.cell? _ = some _ := hb0.cell 0
    have a1 : w2.cell? _ = some _ := hb0.cell 1
    have a2 : w2.cell? _ = some _ := hb0.cell 2
    have hlt0 := hb0.lt
    have hlt := hb1.lt
    go_wp2_with (first
      | (go_at_call 85; refine (first_any _ 2 2 [_, _] _ (by omega) rfl (cells_new _ _ _ _ (by simp) _ rfl)).mono ?_; rintro e w' ⟨rfl, rfl⟩)
      | (go_at_call 89; refine (offset_any x.s x.t x.r d t _ (by omega) (by omega) (by omega) (by omega) (by omega) (by omega) (by omega) (by omega) (by omega)).mono ?_; rintro e w3 ⟨rfl, hn3⟩
         have hb3 := hb1.keep (hn2of hn3)
         have c0 : w3.cell? _ = some _ := hb3.cell 0
         have c1 : w3.cell? _ = some _ := hb3.cell 1
         have f0 := hb3.free 0
         have f1 := hb3.free 1
         have hlt3 := hb3.lt))
    rw [HO.out]
    exact bodyPost_ret (v := .tuple #[.agg #[.int .i64 (offBy x d t).1, .int .i64 (offBy x d t).2], .int .i64 0]) (by simp [results, Try.results31, go_sem, c0, c1]) rfl ⟨rfl, ((hN.trans (hn2of hn3)).setCell (by simp) _).setCell (by simp) _⟩
  · have b1 : (firstE [exErr x, timeE d t] != 0) = true := by simpa using hE
    have HO := Lib.hid (show offByS x d t = ((0, 0), firstE [exErr x, timeE d t]) by unfold offByS; rw [if_neg hE])
    clear hE
    go_enter Try.func31, Try.ntmps31
    go_wp2_with fail
    refine (checkEx_any x _).mono ?_
    rintro e w1 ⟨rfl, hn1⟩
    go_wp2_with fail
    refine (timeErr_any _ _ _).mono ?_
    rintro e w2 ⟨rfl, hn2⟩
    have hb1 := (Bx.mk_at (w.alloc (.cells #[.int .i64 x.s, .int .i64 x.t, .int .i64 x.r] 35)) 38 #[.int .i64 0, .int .i64 0] (w.heap.size + 1) (by simp)).keep (hn1.trans hn2)
    have hN := hn2of (hn2of (hn1.trans hn2))
    clear hn1 hn2
    have c0 : w2.cell? _ = some _ := hb1.cell 0
    have c1 : w2.cell? _ = some _ := hb1.cell 1
    have f0 := hb1.free 0
    have f1 := hb1.free 1
    have hlt := hb1.lt
    go_wp2_with (first
      | (go_at_call 85; refine (first_any _ 2 2 [_, _] _ (by omega) rfl (cells_new _ _ _ _ (by simp) _ rfl)).mono ?_; rintro e w' ⟨rfl, rfl⟩))
    rw [HO.out]
    exact bodyPost_ret (v := .tuple #[.agg #[.int .i64 0, .int .i64 0], .int .i64 (firstE [exErr x, timeE d t])]) (by simp [results, Try.results31, go_sem, c0, c1, hlt]) rfl ⟨rfl, (by repeat (first | exact New.refl _ | assumption | apply New.drew | apply New.alloc | (refine New.setCell ?_ (by simp; try omega) _) | (refine New.trans ?_ (by assumption))))⟩

set_option maxHeartbeats 1000000 in
theorem TrueAt_any (A : Option Addr) (n cap : Nat) (xs : List Exch) (d t : Int) (w : World) (hn : n ≤ 1000) (hr : Rd w 3 encX A n xs)
    (hb : (offAtS xs d t).2 = 0 → -4000000000000 ≤ t + (offAtS xs d t).1.1 ∧ t + (offAtS xs d t).1.1 ≤ 4000000000000 ∧ -4000000000000 ≤ t + (offAtS xs d t).1.2 ∧ t + (offAtS xs d t).1.2 ≤ 4000000000000) :
    Calls Try.prog 27 #[.slice A n cap, .int .i64 d, .int .i64 t] w fun e w' =>
      e = .returned (.tuple #[.agg #[.int .i64 (trueAtS xs d t).1.1, .int .i64 (trueAtS xs d t).1.2], .int .i64 (trueAtS xs d t).2]) ∧ New w w' := by
  have HR := Lib.hid hr; clear hr
  have HB := Lib.hid hb; clear hb
  go_enter Try.func27, Try.ntmps27
  go_wp2_with fail
  refine (OffsetAt_any A n cap xs d t _ hn (HR.out.keep ((New.refl _).alloc _))).mono ?_
  rintro e w1 ⟨rfl, hn1⟩
  have hb := (Bx.mk w 38 #[.int .i64 0, .int .i64 0]).keep hn1
  have c0 : w1.cell? _ = some _ := hb.cell 0
  have c1 : w1.cell? _ = some _ := hb.cell 1
  have f0 := hb.free 0
  have f1 := hb.free 1
  have hlt := hb.lt
  clear hb
  have hN := hn2of hn1
  by_cases hE : (offAtS xs d t).2 = 0
  · obtain ⟨g1, g2, g3, g4⟩ := HB.out hE
    have b1 : ((offAtS xs d t).2 != 0) = false := by simpa using hE
    have HO := Lib.hid (show trueAtS xs d t = ((t + (offAtS xs d t).1.1, t + (offAtS xs d t).1.2), 0) by unfold trueAtS; rw [if_pos hE])
    clear hE
    go_wp2
    rw [HO.out]
    exact bodyPost_ret (v := .tuple #[.agg #[.int .i64 (t + (offAtS xs d t).1.1), .int .i64 (t + (offAtS xs d t).1.2)], .int .i64 0]) (by simp [results, Try.results27, go_sem, c0, c1, hlt]) rfl ⟨rfl, (by repeat (first | exact New.refl _ | assumption | apply New.drew | apply New.alloc | (refine New.setCell ?_ (by simp; try omega) _) | (refine New.trans ?_ (by assumption))))⟩
  · have b1 : ((offAtS xs d t).2 != 0) = true := by simpa using hE
    have HO := Lib.hid (show trueAtS xs d t = ((0, 0), (offAtS xs d t).2) by unfold trueAtS; rw [if_neg hE])
    clear hE
    go_wp2
    rw [HO.out]
    exact bodyPost_ret (v := .tuple #[.agg #[.int .i64 0, .int .i64 0], .int .i64 (offAtS xs d t).2]) (by simp [results, Try.results27, go_sem, c0, c1, hlt]) rfl ⟨rfl, (by repeat (first | exact New.refl _ | assumption | apply New.drew | apply New.alloc | (refine New.setCell ?_ (by simp; try omega) _) | (refine New.trans ?_ (by assumption))))⟩
end Go.Proofs.Ytjpkcmlepjbamaa
