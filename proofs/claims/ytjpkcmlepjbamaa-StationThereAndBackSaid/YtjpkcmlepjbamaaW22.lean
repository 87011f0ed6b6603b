/- Contracts: the reference's ExchangesErr, OffsetAt; the law's clockErr. -/
import Derived.Test.YtjpkcmlepjbamaaW18
import Derived.Test.YtjpkcmlepjbamaaSpecG
namespace Go.Proofs.Ytjpkcmlepjbamaa
open Go.RowKit Go.Sky

set_option maxHeartbeats 1000000 in
theorem refExs_any (A : Option Addr) (n cap : Nat) (xs : List Exch) (w : World) (hr : Rd w 3 encX A n xs) :
    Calls Try.prog 90 #[.slice A n cap] w fun e w' => e = .returned (.int .i64 (offE1 xs)) ∧ New w w' := by
  have HL := Lib.hid hr.len
  have HR := Lib.hid hr; clear hr
  have HE := Lib.hid (offE1_of xs n HL.out)
  by_cases h0 : n = 0
  · have b0 : ((n : Int) == 0) = true := by simpa using h0
    have HV := Lib.hid (show offE1 xs = 10 by rw [HE.out, if_pos h0])
    clear h0
    go_enter Try.func90, Try.ntmps90
    go_wp2
    go_ret
    exact ⟨by rw [HV.out]; rfl, New.refl _⟩
  by_cases h1 : 20 < n
  · have b0 : ((n : Int) == 0) = false := by simpa using h0
    have b1 : 20 < (n : Int) := by omega
    have HV := Lib.hid (show offE1 xs = 8 by rw [HE.out, if_neg h0, if_pos h1])
    clear h0
    go_enter Try.func90, Try.ntmps90
    go_wp2
    go_ret
    exact ⟨by rw [HV.out]; rfl, New.refl _⟩
  have b0 : ((n : Int) == 0) = false := by simpa using h0
  have b1 : ¬ 20 < (n : Int) := by omega
  have HV := Lib.hid (show offE1 xs = exsErr xs by rw [HE.out, if_neg h0, if_neg h1])
  clear h0
  go_enter Try.func90, Try.ntmps90
  go_wp2
  go_loopw [3, 4] (fun i _ wr => ∃ k : Nat, k ≤ n ∧ i = .int .i64 k ∧ Hid (exsErr (xs.take k) = 0) ∧ New w wr) (fun i _ _ => n - (intOf i).toNat)
  case atStart => exact ⟨0, by omega, rfl, rfl, New.refl _⟩
  case round =>
    obtain ⟨k, hk, rfl, HF, hN⟩ := hrel
    by_cases hlt : k < n
    · obtain ⟨b, o, x, rfl, hb, hx, hc⟩ := (HR.out.keep hN).at_ hlt
      have g0 := hc 0 _ rfl
      have g1 := hc 1 _ rfl
      have g2 := hc 2 _ rfl
      simp only [Nat.add_zero] at g0
      have HX := Lib.hid hx
      have HT := Lib.hid (exsErr_take xs k x hx HF.out)
      clear hx hc
      have l1 : (0 : Int) ≤ (k : Int) := by omega
      have l2 : (k : Int) < (n : Int) := by omega
      go_wp2_with fail
      refine (refEx_any x _).mono ?_
      rintro e w2 ⟨rfl, n2⟩
      by_cases hE : exErr x = 0
      · have bE : (exErr x != 0) = false := by simpa using hE
        have HE2 := Lib.hid hE
        clear hE
        go_wp2_with fail
        go_roundw
        case rel => exact ⟨k + 1, by omega, by go_num, by show exsErr _ = 0; rw [HT.out, HE2.out], hN.trans n2⟩
        case measure => simp [intOf]; omega
      · have bE : (exErr x != 0) = true := by simpa using hE
        have HS := Lib.hid (show exsErr xs = exErr x by rw [exsErr_stop xs (k + 1) (by rw [HT.out]; exact hE), HT.out])
        clear hE
        go_wp2_with fail
        go_ret
        exact ⟨by rw [HV.out, HS.out]; rfl, hN.trans n2⟩
    · obtain rfl : k = n := by omega
      have HS := Lib.hid (show exsErr xs = 0 by have := HF.out; rwa [List.take_of_length_le (by rw [HL.out]; omega)] at this)
      go_wp2_with fail
      go_ret
      exact ⟨by rw [HV.out, HS.out]; rfl, hN⟩

theorem clockErr_any (A : Option Addr) (n cap : Nat) (xs : List Exch) (d t : Int) (w : World) (hr : Rd w 3 encX A n xs) :
    Calls Try.prog 33 #[.slice A n cap, .int .i64 d, .int .i64 t] w fun e w' => e = .returned (.int .i64 (offsErr xs d t)) ∧ New w w' := by
  have HE := Lib.hid (offsErr_of xs d t)
  by_cases h0 : offE1 xs = 0
  · have b0 : (offE1 xs != 0) = false := by simpa using h0
    have HV := Lib.hid (show offsErr xs d t = timeE d t by rw [HE.out, if_pos h0])
    clear h0
    go_enter Try.func33, Try.ntmps33
    go_wp2_with fail
    refine (refExs_any A n cap xs _ hr).mono ?_
    rintro e w2 ⟨rfl, n2⟩
    go_wp2_with fail
    refine (driftErr_any d t _).mono ?_
    rintro e w' ⟨rfl, rfl⟩
    go_wp2_with fail
    go_ret
    exact ⟨by rw [HV.out]; rfl, n2⟩
  · have b0 : (offE1 xs != 0) = true := by simpa using h0
    have HV := Lib.hid (show offsErr xs d t = offE1 xs by rw [HE.out, if_neg h0])
    clear h0
    go_enter Try.func33, Try.ntmps33
    go_wp2_with fail
    refine (refExs_any A n cap xs _ hr).mono ?_
    rintro e w2 ⟨rfl, n2⟩
    go_wp2_with fail
    go_ret
    exact ⟨by rw [HV.out]; rfl, n2⟩

set_option maxRecDepth 100000 in
set_option maxHeartbeats 4000000 in
theorem refOffAt_any (A : Option Addr) (n cap : Nat) (xs : List Exch) (d t : Int) (w : World) (hn : n ≤ 1000) (hr : Rd w 3 encX A n xs) (h0 : offsErr xs d t = 0) :
    Calls Try.prog 34 #[.slice A n cap, .int .i64 d, .int .i64 t] w fun e w' =>
      e = .returned (.tuple #[.agg #[.int .i64 (comS (xs.map (offBy · d t))).1, .int .i64 (comS (xs.map (offBy · d t))).2], .bool (decide ((comS (xs.map (offBy · d t))).1 ≤ (comS (xs.map (offBy · d t))).2))]) ∧ New w w' := by
  have HL := Lib.hid hr.len
  obtain ⟨p1, p2, p3⟩ := offs_parts h0
  have HP := Lib.hid p1
  obtain ⟨t1, t2, t3, t4⟩ := timeE_zero p2
  have hn0 : 0 < n := by rw [← HL.out]; exact List.length_pos_iff.2 p3
  clear h0 p1 p2 p3
  obtain ⟨b, o, rfl, hb, hc⟩ := hr.some_ hn0
  have HR := Lib.hid hr; clear hr
  obtain ⟨x0, hx0⟩ : ∃ x, xs[0]? = some x := ⟨_, List.getElem?_eq_getElem (by rw [HL.out]; omega)⟩
  have g0 := hc 0 x0 hx0 0 _ rfl
  have g1 := hc 0 x0 hx0 1 _ rfl
  have g2 := hc 0 x0 hx0 2 _ rfl
  simp only [Nat.zero_mul, Nat.add_zero] at g0 g1 g2
  obtain ⟨e1, e2, e3, e4, e5⟩ := exErr_zero (HP.out x0 (List.mem_of_getElem? hx0))
  have hm0 : (xs.map (offBy · d t))[0]? = some (offBy x0 d t) := by rw [List.getElem?_map, hx0]; rfl
  have HF1 := Lib.hid (foldCut_one hm0)
  have HCM := Lib.hid (comS_fold hm0)
  clear hc hx0 hm0
  have hN0 : (0 : Int) < (n : Int) := by omega
  go_enter Try.func34, Try.ntmps34
  go_wp2_with fail
  refine (refOff_any x0.s x0.t x0.r d t _ (by omega) (by omega) (by omega) (by omega) (by omega) (by omega) (by omega) (by omega) (by omega)).mono ?_
  rintro e w1 ⟨rfl, nw⟩
  rw [show (⟨x0.s, x0.t, x0.r⟩ : Exch) = x0 from rfl]
  have hz := (Bx.mk w 38 #[.int .i64 0, .int .i64 0]).keep nw
  have hN1 := hn2of nw
  have hlt0 := hz.lt
  clear nw g0 g1 g2
  go_wp2_with fail
  go_loopw [9, 10] (fun i _ wr => ∃ (k : Nat) (c : Int × Int), 1 ≤ k ∧ k ≤ n ∧ i = .int .i64 k ∧ Hid (c = foldTo rCut (offBy x0 d t) (xs.map (offBy · d t)) k) ∧ Bx wr w.heap.size 38 #[.int .i64 0, .int .i64 0] ∧ Bx wr w1.heap.size 38 #[.int .i64 c.1, .int .i64 c.2] ∧ New w wr) (fun i _ _ => n - (intOf i).toNat)
  case atStart => exact ⟨1, _, by omega, by omega, rfl, Lib.hid HF1.out.symm, hz.alloc _, Bx.mk _ _ _, hN1.alloc _⟩
  case round =>
    clear hz
    obtain ⟨k, c, hk1, hk, rfl, HF, hz, hy, hN⟩ := hrel
    have c0 : wr.cell? _ = some _ := hy.cell 0
    have c1 : wr.cell? _ = some _ := hy.cell 1
    have f0 := hy.free 0
    have f1 := hy.free 1
    have hsz := hy.lt
    by_cases hlt : k < n
    · obtain ⟨b', o', x, hA, hb', hx, hcx⟩ := (HR.out.keep hN).at_ hlt
      injection hA with hA
      injection hA with hA1 hA2
      subst hA1 hA2
      have q0 := hcx 0 _ rfl
      have q1 := hcx 1 _ rfl
      have q2 := hcx 2 _ rfl
      simp only [Nat.add_zero] at q0
      have l1 : (0 : Int) ≤ (k : Int) := by omega
      have l2 : (k : Int) < (n : Int) := by omega
      obtain ⟨m1, m2, m3, m4, m5⟩ := exErr_zero (HP.out x (List.mem_of_getElem? hx))
      have HS := Lib.hid (foldTo_step rCut (offBy x0 d t) (xs.map (offBy · d t)) k (offBy x d t) (by rw [List.getElem?_map, hx]; rfl))
      clear hx hcx
      go_wp2_with fail
      refine (refOff_any x.s x.t x.r d t _ (by omega) (by omega) (by omega) (by omega) (by omega) (by omega) (by omega) (by omega) (by omega)).mono ?_
      rintro e w2 ⟨rfl, n2⟩
      rw [show (⟨x.s, x.t, x.r⟩ : Exch) = x from rfl]
      have hz2 := hz.keep n2
      have hy2 := hy.keep n2
      have hN2 := hN.trans n2
      clear c0 c1 f0 f1 hsz hz hy hN n2 q0 q1 q2
      have c0 : w2.cell? _ = some _ := hy2.cell 0
      have c1 : w2.cell? _ = some _ := hy2.cell 1
      have f0 := hy2.free 0
      have f1 := hy2.free 1
      have hsz := hy2.lt
      have HSZ := Lib.hid hN1.size
      generalize offBy x d t = y at *
      go_wp2_with fail
      all_goals
        go_roundw
        case rel => exact ⟨k + 1, rCut c y, by omega, by omega, by go_num, by rw [HS.out, ← HF.out]; rfl, by
          have hne : w.heap.size ≠ w1.heap.size := by omega
          exact ((hz2.far (p := ⟨w1.heap.size, 0, none⟩) hne _).far (p := ⟨w1.heap.size, 1, none⟩) hne _).alloc _, by
          have e1 : max c.1 y.1 = if c.1 < y.1 then y.1 else c.1 := by omega
          have e2 : min c.2 y.2 = if y.2 < c.2 then y.2 else c.2 := by omega
          simp only [rCut, e1, e2]
          exact ((hy2.set 0 _).set 1 _).alloc _, ((hN2.setCell (p := ⟨w1.heap.size, 0, none⟩) HSZ.out _).setCell (p := ⟨w1.heap.size, 1, none⟩) HSZ.out _).alloc _⟩
        case measure => simp [intOf]; omega
    · obtain rfl : k = n := by omega
      have y0 : wr.cell? _ = some _ := hz.cell 0
      have y1 : wr.cell? _ = some _ := hz.cell 1
      have yf0 := hz.free 0
      have yf1 := hz.free 1
      have HE := Lib.hid (show c = comS (xs.map (offBy · d t)) by rw [HF.out, HCM.out, List.length_map, HL.out])
      go_wp2
      go_region
      all_goals
        go_wp2
        exact bodyPost_ret (v := .tuple #[.agg #[.int .i64 c.1, .int .i64 c.2], .bool (decide (c.1 ≤ c.2))]) (by simp [results, Try.results34, go_sem, y0, y1]) rfl ⟨by rw [HE.out], (((hN.setCell (by simp) _).setCell (by simp) _).drew)⟩
end Go.Proofs.Ytjpkcmlepjbamaa
