/- Contracts of the small functions of the chart: within, unless, first, isSized, isPlace, placeErr, reachErr, square, isName.
   Contracts: the errors of stations.
   Contracts: the reference of stations: errors, copies.
   Places in cells.
   Contracts: polygons checked. -/
import Derived.BigQuiet
import Derived.Deep.AppendLies
import Derived.Deep.Draws
import Derived.Deep.Quiet
import Derived.Deep.QuietTactic
import Derived.Laws.BitsAllLaws
import Derived.Lib.Hide
import Derived.MapKept
import Derived.Maps.Keyed
import Derived.OrdersIn
import Derived.OwnWalkIn
import Derived.RangeFuncCalls
import Derived.Shelf.RegionOpen
import Derived.StillTail
import Derived.TacticsIn
import Derived.Test.YtaogolnoiffgiaaProg
import Derived.WalkKit
import Derived.WalkLawsBesides
import Derived.WalkSpells
import Derived.Test.YtaogolnoiffgiaaC22B
import Derived.Test.YtaogolnoiffgiaaC22F
import Derived.Test.YtaogolnoiffgiaaC22G
import Derived.Test.YtaogolnoiffgiaaC22I
import Derived.Test.YtaogolnoiffgiaaC22K

namespace Go.Proofs.Ytaogolnoiffgiaa
open Go.RowKit Go.Sky Go.Sky.Ch

theorem cWithin_any (n lo hi : Int) (w : World) : Calls Try.prog 95 #[.int .i64 n, .int .i64 lo, .int .i64 hi] w fun e w' => e = .returned (.bool (inR n lo hi)) ∧ w = w' := by
  by_cases h1 : lo ≤ n
  · go_enter Try.func95, Try.ntmps95
    go_wp2
    go_ret
    exact ⟨by simp [inR, h1], rfl⟩
  · go_enter Try.func95, Try.ntmps95
    go_wp2
    go_ret
    exact ⟨by simp only [inR]; simp; omega, rfl⟩

theorem cUnless_any (c : Bool) (n : Int) (w : World) : Calls Try.prog 81 #[.bool c, .int .i64 n] w fun e w' => e = .returned (.int .i64 (errU c n)) ∧ w = w' := by
  cases c
  · go_enter Try.func81, Try.ntmps81
    go_wp2
    go_ret
    exact ⟨rfl, rfl⟩
  · go_enter Try.func81, Try.ntmps81
    go_wp2
    go_ret
    exact ⟨rfl, rfl⟩

set_option maxHeartbeats 400000 in
theorem cFirst_any (B n cap : Nat) (xs : List Int) (w : World) (hn : n ≤ 1000) (hl : xs.length = n) (hc : ∀ j u, (xs.flatMap encI)[j]? = some u → w.cell? ⟨B, j, none⟩ = some u) :
    Calls Try.prog 80 #[.slice (some ⟨B, 0, none⟩) n cap] w fun e w' => e = .returned (.int .i64 (firstE xs)) ∧ w = w' := by
  have HC := Lib.hid hc; clear hc
  have HL := Lib.hid hl; clear hl
  go_enter Try.func80, Try.ntmps80
  go_wp2
  go_loop [4, 7] (fun _ i => ∃ k : Nat, k ≤ n ∧ i = .int .i64 k ∧ Hid (firstE xs = firstE (xs.drop k))) (fun _ i => n - (intOf i).toNat)
  case atStart => exact ⟨0, by omega, rfl, rfl⟩
  case round =>
    obtain ⟨k, hk, rfl, HF⟩ := hrel
    by_cases hlt : k < n
    · have hkl : k < xs.length := by rw [HL.out]; exact hlt
      have hcell : w.cell? ⟨B, k, none⟩ = some (.int .i64 xs[k]) := HC.out k _ (by
        have := flat_at (k := 1) (enc := encI) (fun _ => rfl) xs k xs[k] (List.getElem?_eq_getElem hkl) 0 _ rfl
        simpa using this)
      have HD := Lib.hid (firstE_drop xs k hkl)
      have HX := Lib.hid HF.out; clear HF
      generalize xs[k] = x at *
      by_cases hx : x = 0
      · have hx1 : (x != 0) = false := by simp [hx]
        have HX2 := Lib.hid hx
        clear hx
        go_wp2
        go_round
        case rel => exact ⟨k + 1, by omega, by go_num, by rw [HX.out, HD.out, if_pos HX2.out]; rfl⟩
        case measure => simp [intOf]; omega
      · have hx1 : (x != 0) = true := by simp [hx]
        go_wp2
        go_ret
        exact ⟨by rw [HX.out, HD.out, if_neg hx]; rfl, rfl⟩
    · go_wp2
      go_ret
      exact ⟨by rw [HF.out, List.drop_of_length_le (by rw [HL.out]; omega)]; rfl, rfl⟩

theorem cIsSized_any (n m : Int) (w : World) (h0 : 0 ≤ m) (h1 : m ≤ 1000000000) : Calls Try.prog 84 #[.int .i64 n, .int .i64 m] w fun e w' => e = .returned (.bool (sizedI n m)) ∧ w = w' := by
  go_enter Try.func84, Try.ntmps84
  go_wp2_with (go_at_call 95; refine (cWithin_any _ _ _ _).mono ?_; rintro e w' ⟨rfl, rfl⟩)
  go_ret
  exact ⟨rfl, rfl⟩
theorem cIsSized_is {n m : Int} {v : Bool} (h : sizedI n m = v) (w : World) (h0 : 0 ≤ m) (h1 : m ≤ 1000000000) : Calls Try.prog 84 #[.int .i64 n, .int .i64 m] w fun e w' => e = .returned (.bool v) ∧ w = w' := h ▸ cIsSized_any n m w h0 h1
theorem cWithin_is {n lo hi : Int} {v : Bool} (h : inR n lo hi = v) (w : World) : Calls Try.prog 95 #[.int .i64 n, .int .i64 lo, .int .i64 hi] w fun e w' => e = .returned (.bool v) ∧ w = w' := h ▸ cWithin_any n lo hi w

theorem cIsPlace_any (x y : Int) (w : World) : Calls Try.prog 105 #[.agg #[.int .i64 x, .int .i64 y]] w fun e w' => e = .returned (.bool (placeOk x y)) ∧ New w w' := by
  have N0 := (New.refl w).alloc (.cells #[.int .i64 x, .int .i64 y] 73)
  have HV := Lib.hid (show placeOk x y = (inR x 0 30 && inR y 0 30) from rfl)
  obtain ⟨a, ha⟩ : ∃ v, inR x 0 30 = v := ⟨_, rfl⟩
  obtain ⟨b, hb⟩ : ∃ v, inR y 0 30 = v := ⟨_, rfl⟩
  rw [ha, hb] at HV
  have HA := Lib.hid ha
  have HB := Lib.hid hb
  clear ha hb
  cases a
  all_goals
    go_enter Try.func105, Try.ntmps105
    go_wp2_with fail
    refine (cWithin_is HA.out _).mono ?_
    rintro e w' ⟨rfl, rfl⟩
    go_wp2_with fail
  · go_ret
    exact ⟨by rw [HV.out]; rfl, N0⟩
  · refine (cWithin_is HB.out _).mono ?_
    rintro e w' ⟨rfl, rfl⟩
    go_wp2_with fail
    go_ret
    exact ⟨by rw [HV.out]; rfl, N0⟩
theorem cPlaceErr_any (x y : Int) (w : World) : Calls Try.prog 98 #[.agg #[.int .i64 x, .int .i64 y]] w fun e w' => e = .returned (.int .i64 (placeE x y)) ∧ New w w' := by
  have N0 := (New.refl w).alloc (.cells #[.int .i64 x, .int .i64 y] 73)
  have HV := Lib.hid (show placeE x y = errU (placeOk x y) 2 from rfl)
  go_enter Try.func98, Try.ntmps98
  go_wp2_with fail
  refine (cIsPlace_any _ _ _).mono ?_
  rintro e w1 ⟨rfl, n1⟩
  go_wp2_with fail
  refine (cUnless_any _ _ _).mono ?_
  rintro e w' ⟨rfl, rfl⟩
  rw [← HV.out]
  go_wp2_with fail
  go_ret
  exact ⟨rfl, N0.trans n1⟩
theorem cPlaceErr_is {x y v : Int} (h : placeE x y = v) (w : World) : Calls Try.prog 98 #[.agg #[.int .i64 x, .int .i64 y]] w fun e w' => e = .returned (.int .i64 v) ∧ New w w' := h ▸ cPlaceErr_any x y w
theorem cReachErr_any (n : Int) (w : World) : Calls Try.prog 99 #[.int .i64 n] w fun e w' => e = .returned (.int .i64 (reachE n)) ∧ w = w' := by
  have HV := Lib.hid (show reachE n = errU (inR n 0 2000) 2 from rfl)
  go_enter Try.func99, Try.ntmps99
  go_wp2_with fail
  refine (cWithin_any _ _ _ _).mono ?_
  rintro e w' ⟨rfl, rfl⟩
  go_wp2_with fail
  refine (cUnless_any _ _ _).mono ?_
  rintro e w' ⟨rfl, rfl⟩
  rw [← HV.out]
  go_wp2_with fail
  go_ret
  exact ⟨rfl, rfl⟩

set_option maxRecDepth 100000 in
theorem cSquare_any (x y u v : Int) (w : World) (hx : -100000 ≤ x ∧ x ≤ 100000) (hy : -100000 ≤ y ∧ y ≤ 100000) (hu : -100000 ≤ u ∧ u ≤ 100000) (hv : -100000 ≤ v ∧ v ≤ 100000) :
    Calls Try.prog 106 #[.agg #[.int .i64 x, .int .i64 y], .agg #[.int .i64 u, .int .i64 v]] w fun e w' => e = .returned (.int .i64 (sqS x y u v)) ∧ New w w' := by
  have HV := Lib.hid (show sqS x y u v = (x - u) * (x - u) + (y - v) * (y - v) from rfl)
  have N0 := ((New.refl w).alloc (.cells #[.int .i64 x, .int .i64 y] 73)).alloc (.cells #[.int .i64 u, .int .i64 v] 73)
  have b0 := (Bx.mk w 73 #[.int .i64 x, .int .i64 y]).alloc (.cells #[.int .i64 u, .int .i64 v] 73)
  have b1 := Bx.mk_at (w.alloc (.cells #[.int .i64 x, .int .i64 y] 73)) 73 #[.int .i64 u, .int .i64 v] (w.heap.size + 1) (by simp)
  obtain ⟨W2, hW2⟩ : ∃ W2, (w.alloc (.cells #[.int .i64 x, .int .i64 y] 73)).alloc (.cells #[.int .i64 u, .int .i64 v] 73) = W2 := ⟨_, rfl⟩
  have p1 := sq_bd (x - u) (by omega) (by omega)
  have p2 := sq_bd (y - v) (by omega) (by omega)
  go_enter Try.func106, Try.ntmps106
  go_wp2_with fail
  rw [hW2] at b0 b1 N0
  try rw [hW2]
  clear hW2
  have c0 : World.cell? _ ⟨w.heap.size, 0, none⟩ = some (.int .i64 x) := b0.cell 0
  have c1 : World.cell? _ ⟨w.heap.size, 1, none⟩ = some (.int .i64 y) := b0.cell 1
  have d0 : World.cell? _ ⟨w.heap.size + 1, 0, none⟩ = some (.int .i64 u) := b1.cell 0
  have d1 : World.cell? _ ⟨w.heap.size + 1, 1, none⟩ = some (.int .i64 v) := b1.cell 1
  have l0 := b0.lt
  have l1 := b1.lt
  (refine wp_region_new (by kernel_rfl) (by kernel_rfl) ?_; (repeat (go_big_quiet_step ((fail)))); refine wpQuiet_nil ?_)
  intro w3 n3
  obtain ⟨a, ha⟩ : ∃ a, x - u = a := ⟨_, rfl⟩
  obtain ⟨b, hb⟩ : ∃ b, y - v = b := ⟨_, rfl⟩
  rw [ha] at p1 HV
  rw [hb] at p2 HV
  go_wp2_with fail
  go_ret
  exact ⟨by rw [HV.out]; rfl, N0.trans n3⟩

set_option maxRecDepth 100000 in
set_option maxHeartbeats 4000000 in
theorem cIsName_any (s : ByteArray) (w : World) (hs : s.size ≤ 1000) :
    Calls Try.prog 138 #[.string s] w fun e w' => e = .returned (.bool (nameS s.data.toList)) ∧ New w w' := by
  go_enter Try.func138, Try.ntmps138
  go_wp2_with (refine wpList_bytes _ rfl _ 9 236 5 rfl Try.underlying9 Try.underlying236 Try.underlying5 s rfl ?_; intro g cap w2 hn2 hr2 hg2)
  have hl : s.data.toList.length = s.size := by simp
  have HL := Lib.hid hl
  clear hl
  have HR := Lib.hid hr2
  clear hr2
  go_loopw [9] (fun i wr => ∃ k : Nat, k ≤ s.size ∧ i = .int .i64 (k : Int) ∧ Hid (badTo s.data.toList k = false) ∧ wr = w2) (fun i _ => s.size - (intOf i).toNat)
  case atStart => exact ⟨0, by omega, rfl, rfl, rfl⟩
  case round =>
    obtain ⟨k, hk, rfl, HB, rfl⟩ := hrel
    by_cases hlt : k < s.size
    · obtain ⟨b, o, c, e, hb, hx, hc⟩ := HR.out.at_ hlt
      injection e with e
      injection e with e1 e2
      subst e1 e2
      have g0 := hc 0 _ rfl
      simp only [Nat.add_zero, Nat.mul_one, Nat.zero_add] at g0
      have HST := Lib.hid (show badTo s.data.toList (k + 1) = badB k c by
        rw [badTo_step, HB.out, List.getD_eq_getElem?_getD, hx]; rfl)
      have hc255 : c.toNat < 256 := c.toNat_lt
      clear hx hc
      obtain ⟨v, hv⟩ : ∃ v : Nat, c.toNat = v := ⟨_, rfl⟩
      have HV := Lib.hid hv
      rw [hv] at hc255 g0
      clear hv
      have HBAD := Lib.hid (show badB k c = (!(decide (97 ≤ v ∧ v ≤ 122) || decide (65 ≤ v ∧ v ≤ 90)) && (decide (k = 0) || (decide (v ≠ 45) && !decide (48 ≤ v ∧ v ≤ 57)))) by
        unfold badB letB digB; rw [HV.out])
      obtain ⟨dg, hdg⟩ : ∃ q, inR (v : Int) 48 57 = q := ⟨_, rfl⟩
      have hdg2 : decide (48 ≤ v ∧ v ≤ 57) = dg := by
        rw [← hdg]
        unfold inR
        rw [Bool.eq_iff_iff, decide_eq_true_eq, decide_eq_true_eq]
        omega
      have HDG := Lib.hid hdg
      have HDG2 := Lib.hid hdg2
      clear hdg hdg2
      have i0 : (0 : Int) ≤ (v : Int) := by omega
      by_cases hk0 : k = 0
      · subst hk0
        rcases name_cases v with ⟨h, t1, t2, t3, t4, t5, t6, t7⟩ | ⟨h, t1, t2, t3, t4, t5, t6, t7⟩ | ⟨h, t1, t2, t3, t4, t5, t6, t7⟩ | ⟨h, t1, t2, t3, t4, t5, t6, t7⟩ | ⟨h, t1, t2, t3, t4, t5, t6, t7⟩ | ⟨h, t1, t2, t3, t4, t5, t6, t7⟩ | ⟨h, t1, t2, t3, t4, t5, t6, t7⟩ | ⟨h, t1, t2, t3, t4, t5, t6, t7⟩ | ⟨h, t1, t2, t3, t4, t5, t6, t7⟩
        all_goals
          first
          | (have HG : Hid (badTo s.data.toList (0 + 1) = false) := Lib.hid (by rw [HST.out, HBAD.out]; simp; omega)
             go_wp2_with fail
             go_roundw
             case rel => exact ⟨1, by omega, by go_num, HG, trivial⟩
             case measure => simp [intOf]; omega)
          | (have HN : Hid (nameS s.data.toList = false) := Lib.hid (name_bad (k := 0 + 1) (by rw [HL.out]; omega) (by rw [HST.out, HBAD.out]; simp; omega))
             go_wp2_with fail
             go_ret
             exact ⟨by rw [HN.out]; rfl, hn2⟩)
      · have dk : ((k : Int) == 0) = false := by simp; omega
        rcases name_cases v with ⟨h, t1, t2, t3, t4, t5, t6, t7⟩ | ⟨h, t1, t2, t3, t4, t5, t6, t7⟩ | ⟨h, t1, t2, t3, t4, t5, t6, t7⟩ | ⟨h, t1, t2, t3, t4, t5, t6, t7⟩ | ⟨h, t1, t2, t3, t4, t5, t6, t7⟩ | ⟨h, t1, t2, t3, t4, t5, t6, t7⟩ | ⟨h, t1, t2, t3, t4, t5, t6, t7⟩ | ⟨h, t1, t2, t3, t4, t5, t6, t7⟩ | ⟨h, t1, t2, t3, t4, t5, t6, t7⟩
        all_goals
          first
          | (have HG : Hid (badTo s.data.toList (k + 1) = false) := Lib.hid (by rw [HST.out, HBAD.out]; simp; omega)
             have HQ : Hid (inR (v : Int) 48 57 = true) := Lib.hid (by unfold inR; exact decide_eq_true (by omega))
             go_wp2_with (go_at_call 95; refine (cWithin_is HQ.out _).mono ?_; rintro e w' ⟨rfl, rfl⟩)
             go_roundw
             case rel => exact ⟨k + 1, by omega, by go_num, HG, trivial⟩
             case measure => simp [intOf]; omega)
          | (have HG : Hid (badTo s.data.toList (k + 1) = false) := Lib.hid (by rw [HST.out, HBAD.out]; simp; omega)
             go_wp2_with fail
             go_roundw
             case rel => exact ⟨k + 1, by omega, by go_num, HG, trivial⟩
             case measure => simp [intOf]; omega)
          | (have HN : Hid (nameS s.data.toList = false) := Lib.hid (name_bad (k := k + 1) (by rw [HL.out]; omega) (by rw [HST.out, HBAD.out]; simp; omega))
             have HQ : Hid (inR (v : Int) 48 57 = false) := Lib.hid (by unfold inR; exact decide_eq_false (by omega))
             go_wp2_with (go_at_call 95; refine (cWithin_is HQ.out _).mono ?_; rintro e w' ⟨rfl, rfl⟩)
             go_ret
             exact ⟨by rw [HN.out]; rfl, hn2⟩)
    · obtain rfl : k = s.size := by omega
      have HV := Lib.hid (name_len (l := s.data.toList) (by rw [HL.out]; exact HB.out))
      have HW := Lib.hid (show inR (s.size : Int) 1 12 = nameS s.data.toList by
        rw [HV.out, HL.out]
        unfold inR
        rw [Bool.eq_iff_iff, decide_eq_true_eq, decide_eq_true_eq]
        omega)
      go_wp2_with fail
      refine (cWithin_any _ _ _ _).mono ?_
      rintro e w' ⟨rfl, rfl⟩
      rw [HW.out]
      go_wp2_with fail
      go_ret
      exact ⟨rfl, hn2⟩
theorem cIsName_is {s : ByteArray} {v : Bool} (h : nameS s.data.toList = v) (w : World) (hs : s.size ≤ 1000) : Calls Try.prog 138 #[.string s] w fun e w' => e = .returned (.bool v) ∧ New w w' := h ▸ cIsName_any s w hs
theorem cSquare_is {x y u v r : Int} (h : sqS x y u v = r) (w : World) (hx : -100000 ≤ x ∧ x ≤ 100000) (hy : -100000 ≤ y ∧ y ≤ 100000) (hu : -100000 ≤ u ∧ u ≤ 100000) (hv : -100000 ≤ v ∧ v ≤ 100000) :
    Calls Try.prog 106 #[.agg #[.int .i64 x, .int .i64 y], .agg #[.int .i64 u, .int .i64 v]] w fun e w' => e = .returned (.int .i64 r) ∧ New w w' := h ▸ cSquare_any x y u v w hx hy hu hv
theorem cSquare_st {s : Sta} {u v r : Int} (h : sqS s.x s.y u v = r) (w : World) (hs : StOk s) (hp : PlOk u v) :
    Calls Try.prog 106 #[.agg #[.int .i64 s.x, .int .i64 s.y], .agg #[.int .i64 u, .int .i64 v]] w fun e w' => e = .returned (.int .i64 r) ∧ New w w' :=
  cSquare_is h w (by have := hs.x; omega) (by have := hs.y; omega) (by have := hp.x; omega) (by have := hp.y; omega)
end Go.Proofs.Ytaogolnoiffgiaa

namespace Go.Proofs.Ytaogolnoiffgiaa
open Go.RowKit Go.Sky Go.Sky.Ch

theorem infoSta : (Try.prog.info? 99).map (fun i => (i.zero, i.size, i.bytes)) = some (some (.agg #[.string .empty, .int .i64 0, .int .i64 0, .int .i64 0, .int .i64 0, .int .i64 0]), 6, 56) := by kernel_rfl
theorem encSt_len (x : Sta) : (encSt x).length = 6 := rfl
theorem encSt_one (x : Sta) : ∀ u ∈ encSt x, u.oneCell' = true := by intro u hu; simp [encSt] at hu; rcases hu with rfl | rfl | rfl | rfl | rfl | rfl <;> rfl

theorem keyStr (k : ByteArray) (h : k.size ≤ 1000) : keyOf Try.prog 9 (.string k) = some (.string k.toList) := by
  simp [keyOf, mapKey, Try.underlying9]
  exact ⟨by unfold maxLen; omega, (ByteArray.toList_eq k).symm⟩
theorem mapSB : MapK Try.prog 163 (fun s : ByteArray => s.size ≤ 1000) (fun s => Value.string s) (fun b : Bool => Value.bool b) (.bool false) where
  desc := ⟨9, 4, Try.underlying163, Maps.string_keyed Try.underlying9, fun k h => ⟨_, keyStr k h⟩, fun w => by kernel_rfl⟩
  inj := fun a b h => by injection h

set_option maxRecDepth 100000 in
set_option maxHeartbeats 4000000 in
theorem cStationErr_any (s : Sta) (k : Bool) (w : World) (hs : s.n.size ≤ 1000) :
    Calls Try.prog 96 #[.agg #[.string s.n, .int .i64 s.x, .int .i64 s.y, .int .i64 s.lo, .int .i64 s.hi, .int .i64 s.a], .bool k] w fun e w' => e = .returned (.int .i64 (stE k s)) ∧ New w w' := by
  have N0 := (New.refl w).alloc (.cells (encSt s).toArray 99)
  have b0 := Bx.mk w 99 (encSt s).toArray
  have HV := Lib.hid (show stE k s = firstE [errU (nameS s.n.data.toList) 4, errU (!k) 5, placeE s.x s.y, errU (sizedI s.lo 10000 && sizedI s.hi 10000) 2, errU (decide (s.lo ≤ s.hi)) 9, errU (inR s.a 0 9) 2] from rfl)
  obtain ⟨q1, h1⟩ : ∃ v, nameS s.n.data.toList = v := ⟨_, rfl⟩
  obtain ⟨q3, h3⟩ : ∃ v, placeE s.x s.y = v := ⟨_, rfl⟩
  obtain ⟨q4, h4⟩ : ∃ v, sizedI s.lo 10000 = v := ⟨_, rfl⟩
  obtain ⟨q5, h5⟩ : ∃ v, sizedI s.hi 10000 = v := ⟨_, rfl⟩
  obtain ⟨q6, h6⟩ : ∃ v, decide (s.lo ≤ s.hi) = v := ⟨_, rfl⟩
  obtain ⟨q7, h7⟩ : ∃ v, inR s.a 0 9 = v := ⟨_, rfl⟩
  rw [h1, h3, h4, h5, h6, h7] at HV
  have H1 := Lib.hid h1
  have H3 := Lib.hid h3
  have H4 := Lib.hid h4
  have H5 := Lib.hid h5
  have H7 := Lib.hid h7
  have HS := Lib.hid hs
  clear h1 h3 h4 h5 h7 hs
  go_enter Try.func96, Try.ntmps96
  go_wp2_with fail
  obtain ⟨W2, hW2⟩ : ∃ W2, w.alloc (.cells #[.string s.n, .int .i64 s.x, .int .i64 s.y, .int .i64 s.lo, .int .i64 s.hi, .int .i64 s.a] 99) = W2 := ⟨_, rfl⟩
  have hW2' : w.alloc (.cells (encSt s).toArray 99) = W2 := hW2
  rw [hW2'] at b0 N0
  rw [hW2]
  clear hW2 hW2'
  have c0 : World.cell? _ ⟨w.heap.size, 0, none⟩ = some (.string s.n) := b0.cell 0
  have c1 : World.cell? _ ⟨w.heap.size, 1, none⟩ = some (.int .i64 s.x) := b0.cell 1
  have c2 : World.cell? _ ⟨w.heap.size, 2, none⟩ = some (.int .i64 s.y) := b0.cell 2
  have c3 : World.cell? _ ⟨w.heap.size, 3, none⟩ = some (.int .i64 s.lo) := b0.cell 3
  have c4 : World.cell? _ ⟨w.heap.size, 4, none⟩ = some (.int .i64 s.hi) := b0.cell 4
  have c5 : World.cell? _ ⟨w.heap.size, 5, none⟩ = some (.int .i64 s.a) := b0.cell 5
  have l0 := b0.lt
  cases q4
  all_goals
    (refine wp_region_tail 33 (by kernel_rfl) (by kernel_rfl) ?_; simp only [List.take_succ_cons, List.take_zero, List.drop_succ_cons, List.drop_zero]; (repeat (go_big_quiet_step ((first | (go_at_call 138; with_reducible exact quiet_new (cIsName_is H1.out _ HS.out)) | (go_at_call 81; exact quiet_same (cUnless_any _ _ _)) | (go_at_call 98; with_reducible exact quiet_new (cPlaceErr_is H3.out _)) | (go_at_call 84; with_reducible exact quiet_same (cIsSized_is H4.out _ (by omega) (by omega))) | (go_at_call 84; with_reducible exact quiet_same (cIsSized_is H5.out _ (by omega) (by omega))) | (go_at_call 95; with_reducible exact quiet_same (cWithin_is H7.out _)))))); refine wpQuiet_nil ?_)
    intro w3 n3
    go_wp2_with (go_at_call 80; refine (cFirst_any _ 6 6 [_, _, _, _, _, _] _ (by omega) rfl (cells_new _ _ _ _ (by simp) _ rfl)).mono ?_; rintro e w' ⟨rfl, rfl⟩)
    go_ret
    exact ⟨by rw [HV.out]; rfl, (N0.trans n3).alloc _⟩

theorem stErr_is {s : Sta} {k : Bool} {v : Int} (h : stE k s = v) (w : World) (hs : s.n.size ≤ 1000) :
    Calls Try.prog 96 #[.agg #[.string s.n, .int .i64 s.x, .int .i64 s.y, .int .i64 s.lo, .int .i64 s.hi, .int .i64 s.a], .bool k] w fun e w' => e = .returned (.int .i64 v) ∧ New w w' := h ▸ cStationErr_any s k w hs

set_option maxRecDepth 100000 in
set_option maxHeartbeats 4000000 in
theorem cCheckStations_any (A : Option Addr) (n cap : Nat) (l : List Sta) (w : World) (hn : n ≤ 1000000) (hr : Rd w 6 encSt A n l) (hs : ∀ s ∈ l, s.n.size ≤ 1000) :
    Calls Try.prog 39 #[.slice A n cap] w fun e w' => e = .returned (.tuple #[.int .i64 (ckS l).1, .int .i64 (ckS l).2]) ∧ New w w' := by
  have HL := Lib.hid hr.len
  have HR := Lib.hid hr
  have HS := Lib.hid hs
  clear hr hs
  by_cases h0 : n = 0
  · subst h0
    have HV := Lib.hid (show ckS l = (0, 10) by unfold ckS; rw [if_pos HL.out])
    go_enter Try.func39, Try.ntmps39
    go_wp2_with (first | (go_at_call 81; refine (cUnless_any _ _ _).mono ?_; rintro e w' ⟨rfl, rfl⟩; first | rw [show errU false 10 = 10 from rfl] | rw [show errU true 8 = 0 from rfl]) | (go_at_call 80; refine (cFirst_any _ 2 2 [_, _] _ (by omega) rfl (cells_new _ _ _ _ (by simp) _ rfl)).mono ?_; rintro e w' ⟨rfl, rfl⟩; rw [show firstE [10, 0] = 10 from rfl]))
    go_ret2
    exact ⟨by rw [HV.out]; rfl, (New.refl _).alloc _⟩
  have d0 : decide ((0 : Int) < (n : Int)) = true := decide_eq_true (by omega)
  have d0' : decide (0 < n) = true := decide_eq_true (by omega)
  by_cases h5 : 5 < n
  · have HV := Lib.hid (show ckS l = (0, 8) by unfold ckS; rw [if_neg (by rw [HL.out]; exact h0), if_pos (by rw [HL.out]; exact h5)])
    have d1 : decide ((n : Int) ≤ 5) = false := decide_eq_false (by omega)
    go_enter Try.func39, Try.ntmps39
    go_wp2_with (first | (go_at_call 81; refine (cUnless_any _ _ _).mono ?_; rintro e w' ⟨rfl, rfl⟩; first | rw [show errU true 10 = 0 from rfl] | rw [show errU false 8 = 8 from rfl]) | (go_at_call 80; refine (cFirst_any _ 2 2 [_, _] _ (by omega) rfl (cells_new _ _ _ _ (by simp) _ rfl)).mono ?_; rintro e w' ⟨rfl, rfl⟩; rw [show firstE [0, 8] = 8 from rfl]))
    go_ret2
    exact ⟨by rw [HV.out]; rfl, (New.refl _).alloc _⟩
  have HV := Lib.hid (show ckS l = fb (ckAt l) n by unfold ckS; rw [if_neg (by rw [HL.out]; exact h0), if_neg (by rw [HL.out]; exact h5), HL.out])
  have d1 : decide ((n : Int) ≤ 5) = true := decide_eq_true (by omega)
  have hmm := @run_makeMap Try.prog
  go_enter Try.func39, Try.ntmps39
  go_wp2_with (first | (go_at_call 81; refine (cUnless_any _ _ _).mono ?_; rintro e w' ⟨rfl, rfl⟩; first | rw [show errU true 10 = 0 from rfl] | rw [show errU true 8 = 0 from rfl]) | (go_at_call 80; refine (cFirst_any _ 2 2 [_, _] _ (by omega) rfl (cells_new _ _ _ _ (by simp) _ rfl)).mono ?_; rintro e W0 ⟨rfl, hW0⟩; rw [show firstE [0, 0] = 0 from rfl]; have N0 : New w W0 := hW0 ▸ (New.refl w).alloc _; clear hW0))
  have hwb := N0.size
  have M0 := Lib.hid ((Mg.new (okk := fun s : ByteArray => s.size ≤ 1000) (kenc := fun s => Value.string s) (venc := fun b : Bool => Value.bool b) W0))
  have N1 := N0.alloc (.map #[] 0)
  obtain ⟨mb, hmb⟩ : ∃ mb, W0.heap.size = mb := ⟨_, rfl⟩
  rw [hmb] at M0 hwb ⊢
  clear hmb N0
  go_loopw [25] (fun i wr => ∃ k : Nat, k ≤ n ∧ i = .int .i64 (k : Int) ∧ Hid (∀ j, j < k → ckAt l j = 0) ∧ Hid (Mg (fun s : ByteArray => s.size ≤ 1000) (fun s => Value.string s) (fun b : Bool => Value.bool b) wr mb (knownF (l.take k))) ∧ New w wr) (fun i _ => n - (intOf i).toNat)
  case atStart => exact ⟨0, by omega, rfl, fun j hj => absurd hj (by omega), M0, N1⟩
  case round =>
    clear M0 N1
    obtain ⟨k, hk, rfl, HF, HM, hN⟩ := hrel
    by_cases hlt : k < n
    · obtain ⟨b, o, s, rfl, hb, hx, hc⟩ := (HR.out.keep hN).at_ hlt
      have g0 := hc 0 _ rfl
      have g1 := hc 1 _ rfl
      have g2 := hc 2 _ rfl
      have g3 := hc 3 _ rfl
      have g4 := hc 4 _ rfl
      have g5 := hc 5 _ rfl
      simp only [Nat.add_zero] at g0
      have HX := Lib.hid hx
      have HSZ := Lib.hid (HS.out s (List.mem_of_getElem? hx))
      have HCK := Lib.hid (show ckAt l k = stE (knowsN (l.take k) s.n) s by unfold ckAt; rw [hx])
      have HG := Lib.hid (known_get (l.take k) s.n)
      have HP := Lib.hid (show updG (knownF (l.take k)) s.n true = knownF (l.take (k + 1)) by rw [known_put, take_snoc l k s hx])
      have i0 : (0 : Int) ≤ (k : Int) := by omega
      have i1 : (k : Int) < (n : Int) := by omega
      clear hx hc
      have b1 := Bx.mk wr 99 (encSt s).toArray
      have N1 := hN.alloc (.cells (encSt s).toArray 99)
      have HM1 := Lib.hid (HM.out.alloc (.cells (encSt s).toArray 99))
      obtain ⟨v, hv⟩ : ∃ v, stE (knowsN (l.take k) s.n) s = v := ⟨_, rfl⟩
      have HVV := Lib.hid hv
      rw [hv] at HCK
      clear hv
      have hwk : w.heap.size ≤ mb := hwb
      by_cases hv0 : v = 0
      · subst hv0
        go_wp2_with (first | (at_lookup; refine wpList_mgGet1 mapSB _ rfl _ _ rfl mb _ s.n _ rfl HM1.out HSZ.out rfl HG.out ?_))
        refine (stErr_is HVV.out _ HSZ.out).mono ?_
        rintro e w4 ⟨rfl, n4⟩
        have b4 := b1.keep n4
        have c0 : w4.cell? ⟨wr.heap.size, 0, none⟩ = some (.string s.n) := b4.cell 0
        have HM4 := Lib.hid (HM1.out.keep n4)
        have N4 := N1.trans n4
        clear n4
        go_wp2_with (first | (at_mapUpdate; refine wpList_mgPut mapSB _ rfl _ _ _ rfl mb _ s.n true rfl HM4.out HSZ.out rfl rfl ?_; intro w5 hm5 hg5))
        have N5 := N4.grown hg5 (fun k e => by cases e; exact hwk)
        rw [HP.out] at hm5
        go_wp2_with fail
        go_roundw
        case rel => exact ⟨k + 1, by omega, by go_num, fun j hj => by
          rcases Nat.lt_or_ge j k with h | h
          · exact HF.out j h
          · obtain rfl : j = k := by omega
            exact HCK.out, hm5, N5⟩
        case measure => simp [intOf]; omega
      · have bv : (v != 0) = true := by simpa using hv0
        have HB := Lib.hid (show fb (ckAt l) n = ((k : Int), v) by
          rw [fb_hit hlt HF.out (by rw [HCK.out]; exact hv0), HCK.out])
        clear hv0
        go_wp2_with (first | (at_lookup; refine wpList_mgGet1 mapSB _ rfl _ _ rfl mb _ s.n _ rfl HM1.out HSZ.out rfl HG.out ?_))
        refine (stErr_is HVV.out _ HSZ.out).mono ?_
        rintro e w4 ⟨rfl, n4⟩
        go_wp2_with fail
        go_ret2
        exact ⟨by rw [HV.out, HB.out]; rfl, N1.trans n4⟩
    · obtain rfl : k = n := by omega
      have HB := Lib.hid (fb_none HF.out)
      go_wp2_with fail
      go_ret2
      exact ⟨by rw [HV.out, HB.out]; rfl, hN⟩

theorem cStationsErr_any (A : Option Addr) (n cap : Nat) (l : List Sta) (w : World) (hn : n ≤ 1000000) (hr : Rd w 6 encSt A n l) (hs : ∀ s ∈ l, s.n.size ≤ 1000) :
    Calls Try.prog 97 #[.slice A n cap] w fun e w' => e = .returned (.int .i64 (ckS l).2) ∧ New w w' := by
  have HR := Lib.hid hr
  have HS := Lib.hid hs
  clear hr hs
  go_enter Try.func97, Try.ntmps97
  go_wp2_with fail
  refine (cCheckStations_any A n cap l _ hn HR.out HS.out).mono ?_
  rintro e w1 ⟨rfl, n1⟩
  go_wp2_with fail
  go_ret
  exact ⟨rfl, n1⟩
theorem cStationsErr_is {l : List Sta} {v : Int} (h : (ckS l).2 = v) (A : Option Addr) (n cap : Nat) (w : World) (hn : n ≤ 1000000) (hr : Rd w 6 encSt A n l) (hs : ∀ s ∈ l, s.n.size ≤ 1000) :
    Calls Try.prog 97 #[.slice A n cap] w fun e w' => e = .returned (.int .i64 v) ∧ New w w' := h ▸ cStationsErr_any A n cap l w hn hr hs
end Go.Proofs.Ytaogolnoiffgiaa

namespace Go.Proofs.Ytaogolnoiffgiaa
open Go.RowKit Go.Sky Go.Sky.Ch

theorem refPlace_any (x y : Int) (w : World) : Calls Try.prog 43 #[.agg #[.int .i64 x, .int .i64 y]] w fun e w' => e = .returned (.int .i64 (placeE x y)) ∧ New w w' := by
  have N0 := (New.refl w).alloc (.cells #[.int .i64 x, .int .i64 y] 73)
  have HV := Lib.hid (show placeE x y = errU (inR x 0 30 && inR y 0 30) 2 from rfl)
  obtain ⟨q1, h1⟩ : ∃ v, inR x 0 30 = v := ⟨_, rfl⟩
  obtain ⟨q2, h2⟩ : ∃ v, inR y 0 30 = v := ⟨_, rfl⟩
  rw [h1, h2] at HV
  have H1 := Lib.hid h1
  have H2 := Lib.hid h2
  clear h1 h2
  cases q1 <;> cases q2
  all_goals
    go_enter Try.func43, Try.ntmps43
    go_wp2_with (go_at_call 19; refine (bWithin_any _ _ _ _).mono ?_; rintro e w' ⟨rfl, rfl⟩; first | rw [H1.out] | rw [H2.out])
    go_ret
    exact ⟨by rw [HV.out]; rfl, N0⟩
theorem refPlace_is {x y v : Int} (h : placeE x y = v) (w : World) : Calls Try.prog 43 #[.agg #[.int .i64 x, .int .i64 y]] w fun e w' => e = .returned (.int .i64 v) ∧ New w w' := h ▸ refPlace_any x y w
theorem refReach_any (n : Int) (w : World) : Calls Try.prog 44 #[.int .i64 n] w fun e w' => e = .returned (.int .i64 (reachE n)) ∧ w = w' := by
  have HV := Lib.hid (show reachE n = errU (inR n 0 2000) 2 from rfl)
  obtain ⟨q1, h1⟩ : ∃ v, inR n 0 2000 = v := ⟨_, rfl⟩
  rw [h1] at HV
  have H1 := Lib.hid h1
  clear h1
  cases q1
  all_goals
    go_enter Try.func44, Try.ntmps44
    go_wp2_with (go_at_call 19; refine (bWithin_any _ _ _ _).mono ?_; rintro e w' ⟨rfl, rfl⟩; rw [H1.out])
    go_ret
    exact ⟨by rw [HV.out]; rfl, rfl⟩
theorem refReach_is {n v : Int} (h : reachE n = v) (w : World) : Calls Try.prog 44 #[.int .i64 n] w fun e w' => e = .returned (.int .i64 v) ∧ w = w' := h ▸ refReach_any n w

theorem firstE_ne {q : Int} {l : List Int} (h : q ≠ 0) : firstE (q :: l) = q := by unfold firstE; rw [if_neg h]
def isN (s : ByteArray) (z : Sta) : Bool := decide (z.n = s)
theorem strEq (a b : ByteArray) : (a.toList == b.toList) = decide (a = b) := by
  rw [Bool.eq_iff_iff, beq_iff_eq, decide_eq_true_eq]
  constructor
  · intro h
    rw [ByteArray.toList_eq, ByteArray.toList_eq] at h
    exact ByteArray.ext (Array.toList_inj.1 h)
  · rintro rfl; rfl

set_option maxRecDepth 100000 in
set_option maxHeartbeats 1000000 in
theorem refFind_any (s : ByteArray) (A : Option Addr) (n cap : Nat) (l : List Sta) (w : World) (hn : n ≤ 1000000) (hr : Rd w 6 encSt A n l) :
    Calls Try.prog 111 #[.slice A n cap, .string s] w fun e w' => e = .returned (.int .i64 (idxS (isN s) l)) ∧ w = w' := by
  have HL := Lib.hid hr.len
  have HR := Lib.hid hr; clear hr
  go_enter Try.func111, Try.ntmps111
  go_wp2
  go_loopw [5] (fun i wr => ∃ k : Nat, k ≤ n ∧ i = .int .i64 (k : Int) ∧ wr = w ∧ Hid (∀ j x, j < k → l[j]? = some x → isN s x = false)) (fun i _ => n - (intOf i).toNat)
  case atStart => exact ⟨0, by omega, rfl, rfl, fun j x hj => absurd hj (by omega)⟩
  case round =>
    obtain ⟨k, hk, rfl, rfl, HF⟩ := hrel
    by_cases hlt : k < n
    · obtain ⟨b, o, x, rfl, hb, hx, hc⟩ := HR.out.at_ hlt
      have g0 := hc 0 _ rfl
      simp only [Nat.add_zero] at g0
      obtain ⟨t, ht⟩ : ∃ t, (x.n.toList == s.toList) = t := ⟨_, rfl⟩
      have HT := Lib.hid (show isN s x = t by rw [← ht, strEq]; rfl)
      have HX := Lib.hid hx
      have i0 : (0 : Int) ≤ (k : Int) := by omega
      have i1 : (k : Int) < (n : Int) := by omega
      clear hx hc
      cases t
      · go_wp2
        go_roundw
        case rel => exact ⟨k + 1, by omega, by go_num, trivial, fun j y hj hy => by
          rcases Nat.lt_or_ge j k with h | h
          · exact HF.out j y h hy
          · obtain rfl : j = k := by omega
            have hxy := HX.out
            rw [hy] at hxy
            injection hxy with hxy
            rw [hxy]
            exact HT.out⟩
        case measure => simp [intOf]; omega
      · go_wp2
        go_ret
        exact ⟨by rw [idxS_hit (isN s) l k x HX.out HT.out HF.out]; rfl, rfl⟩
    · go_wp2
      go_ret
      exact ⟨by rw [idxS_miss (isN s) l n HL.out (fun j y hj hy => HF.out j y (by omega) hy)]; rfl, rfl⟩
theorem refFind_is {s : ByteArray} {l : List Sta} {v : Int} (h : idxS (isN s) l = v) (A : Option Addr) (n cap : Nat) (w : World) (hn : n ≤ 1000000) (hr : Rd w 6 encSt A n l) :
    Calls Try.prog 111 #[.slice A n cap, .string s] w fun e w' => e = .returned (.int .i64 v) ∧ w = w' := h ▸ refFind_any s A n cap l w hn hr

set_option maxRecDepth 100000 in
set_option maxHeartbeats 4000000 in
theorem refStE_any (s : Sta) (A : Option Addr) (n cap : Nat) (l : List Sta) (w : World) (hn : n ≤ 1000000) (hs : s.n.size ≤ 1000) (hr : Rd w 6 encSt A n l) :
    Calls Try.prog 101 #[.slice A n cap, .agg #[.string s.n, .int .i64 s.x, .int .i64 s.y, .int .i64 s.lo, .int .i64 s.hi, .int .i64 s.a]] w fun e w' => e = .returned (.int .i64 (stE (knowsN l s.n) s)) ∧ New w w' := by
  have HR := Lib.hid hr
  have HS := Lib.hid hs
  clear hr hs
  have N0 := (New.refl w).alloc (.cells (encSt s).toArray 99)
  have b0 := Bx.mk w 99 (encSt s).toArray
  have HV := Lib.hid (show stE (knowsN l s.n) s = firstE [errU (nameS s.n.data.toList) 4, errU (!(knowsN l s.n)) 5, placeE s.x s.y, errU (inR s.lo (-10000) 10000 && inR s.hi (-10000) 10000) 2, errU (decide (s.lo ≤ s.hi)) 9, errU (inR s.a 0 9) 2] from rfl)
  obtain ⟨E, hE⟩ : ∃ E, stE (knowsN l s.n) s = E := ⟨_, rfl⟩
  rw [hE] at HV ⊢
  clear hE
  obtain ⟨q1, h1⟩ : ∃ v, nameS s.n.data.toList = v := ⟨_, rfl⟩
  obtain ⟨q2, h2⟩ : ∃ v, knowsN l s.n = v := ⟨_, rfl⟩
  obtain ⟨v2, h2v⟩ : ∃ v, idxS (isN s.n) l = v := ⟨_, rfl⟩
  have h2d : decide (0 ≤ v2) = q2 := by rw [← h2v, idxS_any]; exact h2
  obtain ⟨q3, h3⟩ : ∃ v, placeE s.x s.y = v := ⟨_, rfl⟩
  obtain ⟨q4, h4⟩ : ∃ v, inR s.lo (-10000) 10000 = v := ⟨_, rfl⟩
  obtain ⟨q5, h5⟩ : ∃ v, inR s.hi (-10000) 10000 = v := ⟨_, rfl⟩
  obtain ⟨q6, h6⟩ : ∃ v, decide (s.lo ≤ s.hi) = v := ⟨_, rfl⟩
  obtain ⟨q7, h7⟩ : ∃ v, inR s.a 0 9 = v := ⟨_, rfl⟩
  have h6b : decide (s.hi < s.lo) = !q6 := by
    rw [← h6, Bool.eq_iff_iff, decide_eq_true_eq, Bool.not_eq_true', decide_eq_false_iff_not]
    omega
  rw [h1, h2, h3, h4, h5, h6, h7] at HV
  have H1 := Lib.hid h1
  have H2 := Lib.hid h2v
  have H3 := Lib.hid h3
  have H4 := Lib.hid h4
  have H5 := Lib.hid h5
  have H7 := Lib.hid h7
  clear h1 h2 h2v h3 h4 h5 h7
  go_enter Try.func101, Try.ntmps101
  go_wp2_with fail
  obtain ⟨W2, hW2⟩ : ∃ W2, w.alloc (.cells #[.string s.n, .int .i64 s.x, .int .i64 s.y, .int .i64 s.lo, .int .i64 s.hi, .int .i64 s.a] 99) = W2 := ⟨_, rfl⟩
  have hW2' : w.alloc (.cells (encSt s).toArray 99) = W2 := hW2
  rw [hW2'] at b0 N0
  rw [hW2]
  clear hW2 hW2'
  have c0 : World.cell? _ ⟨w.heap.size, 0, none⟩ = some (.string s.n) := b0.cell 0
  have c1 : World.cell? _ ⟨w.heap.size, 1, none⟩ = some (.int .i64 s.x) := b0.cell 1
  have c2 : World.cell? _ ⟨w.heap.size, 2, none⟩ = some (.int .i64 s.y) := b0.cell 2
  have l0 := b0.lt
  refine (bIsName_any _ _ HS.out).mono ?_
  rintro e w' ⟨rfl, rfl⟩
  rw [H1.out]
  cases q1
  · go_wp2_with fail
    go_ret
    exact ⟨by rw [HV.out]; rfl, N0⟩
  go_wp2_with fail
  refine (refFind_is H2.out A n cap _ hn (HR.out.keep N0)).mono ?_
  rintro e w' ⟨rfl, rfl⟩
  cases q2
  rotate_left
  · go_wp2_with fail
    go_ret
    exact ⟨by rw [HV.out]; rfl, N0⟩
  go_wp2_with fail
  refine (refPlace_is H3.out _).mono ?_
  rintro e w3 ⟨rfl, n3⟩
  have N3 := N0.trans n3
  have b3 := b0.keep n3
  have d3 : World.cell? _ ⟨w.heap.size, 3, none⟩ = some (.int .i64 s.lo) := b3.cell 3
  have d4 : World.cell? _ ⟨w.heap.size, 4, none⟩ = some (.int .i64 s.hi) := b3.cell 4
  have d5 : World.cell? _ ⟨w.heap.size, 5, none⟩ = some (.int .i64 s.a) := b3.cell 5
  have l3 := b3.lt
  clear b0 c0 c1 c2 l0 N0 n3
  by_cases hp : q3 = 0
  rotate_left
  · have bp : (q3 != 0) = true := by simpa using hp
    have HW := Lib.hid (HV.out.trans (show firstE [errU true 4, errU (!false) 5, q3, errU (q4 && q5) 2, errU q6 9, errU q7 2] = q3 from firstE_ne (l := [errU (q4 && q5) 2, errU q6 9, errU q7 2]) hp))
    clear HV hp
    go_wp2_with fail
    go_ret
    exact ⟨by rw [HW.out]; rfl, N3⟩
  subst hp
  cases q4 <;> cases q5 <;> cases q6 <;> cases q7
  all_goals
    simp only [Bool.not_true, Bool.not_false] at h6b
    go_wp2_with (go_at_call 19; refine (bWithin_any _ _ _ _).mono ?_; rintro e w' ⟨rfl, rfl⟩; first | rw [H4.out] | rw [H5.out] | rw [H7.out])
    go_ret
    exact ⟨by rw [HV.out]; rfl, N3⟩
theorem refStE_is {s : Sta} {l : List Sta} {v : Int} (h : stE (knowsN l s.n) s = v) (A : Option Addr) (n cap : Nat) (w : World) (hn : n ≤ 1000000) (hs : s.n.size ≤ 1000) (hr : Rd w 6 encSt A n l) :
    Calls Try.prog 101 #[.slice A n cap, .agg #[.string s.n, .int .i64 s.x, .int .i64 s.y, .int .i64 s.lo, .int .i64 s.hi, .int .i64 s.a]] w fun e w' => e = .returned (.int .i64 v) ∧ New w w' := h ▸ refStE_any s A n cap l w hn hs hr

set_option maxRecDepth 100000 in
set_option maxHeartbeats 4000000 in
theorem refCkS_any (A : Option Addr) (n cap : Nat) (l : List Sta) (w : World) (hn : n ≤ 1000000) (hcap : n ≤ cap) (hs : ∀ s ∈ l, s.n.size ≤ 1000) (hr : Rd w 6 encSt A n l) :
    Calls Try.prog 42 #[.slice A n cap] w fun e w' => e = .returned (.tuple #[.int .i64 (ckS l).1, .int .i64 (ckS l).2]) ∧ New w w' := by
  have HL := Lib.hid hr.len
  have HR := Lib.hid hr
  have HS := Lib.hid hs
  clear hr hs
  by_cases h0 : n = 0
  · subst h0
    have HV := Lib.hid (show ckS l = (0, 10) by unfold ckS; rw [if_pos HL.out])
    go_enter Try.func42, Try.ntmps42
    go_wp2_with fail
    go_ret2
    exact ⟨by rw [HV.out]; rfl, New.refl _⟩
  have e0 : ((n : Int) == 0) = false := by simp; omega
  by_cases h5 : 5 < n
  · have HV := Lib.hid (show ckS l = (0, 8) by unfold ckS; rw [if_neg (by rw [HL.out]; exact h0), if_pos (by rw [HL.out]; exact h5)])
    have d1 : decide (5 < (n : Int)) = true := decide_eq_true (by omega)
    go_enter Try.func42, Try.ntmps42
    go_wp2_with fail
    go_ret2
    exact ⟨by rw [HV.out]; rfl, New.refl _⟩
  have HV := Lib.hid (show ckS l = fb (ckAt l) n by unfold ckS; rw [if_neg (by rw [HL.out]; exact h0), if_neg (by rw [HL.out]; exact h5), HL.out])
  have d1 : decide (5 < (n : Int)) = false := decide_eq_false (by omega)
  go_enter Try.func42, Try.ntmps42
  go_wp2_with fail
  go_loopw [4, 5] (fun i _ wr => ∃ k : Nat, k ≤ n ∧ i = .int .i64 (k : Int) ∧ Hid (∀ j, j < k → ckAt l j = 0) ∧ New w wr) (fun i _ _ => n - (intOf i).toNat)
  case atStart => exact ⟨0, by omega, rfl, fun j hj => absurd hj (by omega), New.refl _⟩
  case round =>
    obtain ⟨k, hk, rfl, HF, hN⟩ := hrel
    by_cases hlt : k < n
    · obtain ⟨b, o, x, rfl, hb, hx, hc⟩ := (HR.out.keep hN).at_ hlt
      have g0 := hc 0 _ rfl
      have g1 := hc 1 _ rfl
      have g2 := hc 2 _ rfl
      have g3 := hc 3 _ rfl
      have g4 := hc 4 _ rfl
      have g5 := hc 5 _ rfl
      simp only [Nat.add_zero] at g0
      have HXS := Lib.hid (HS.out x (List.mem_of_getElem? hx))
      have HRT := Lib.hid ((HR.out.keep hN).take (m := k) (by omega))
      have HCK := Lib.hid (show ckAt l k = stE (knowsN (l.take k) x.n) x by unfold ckAt; rw [hx])
      clear hx hc
      have i0 : (0 : Int) ≤ (k : Int) := by omega
      have i1 : (k : Int) ≤ (cap : Int) := by omega
      have i2 : (k : Int) < (n : Int) := by omega
      obtain ⟨E, hE⟩ : ∃ E, stE (knowsN (l.take k) x.n) x = E := ⟨_, rfl⟩
      have HE := Lib.hid hE
      rw [hE] at HCK
      have hz : (E = 0 ∧ (E != 0) = false) ∨ (E ≠ 0 ∧ (E != 0) = true) := by
        by_cases h : E = 0
        · exact .inl ⟨h, by simpa using h⟩
        · exact .inr ⟨h, by simpa using h⟩
      clear hE
      rcases hz with ⟨hz0, b2⟩ | ⟨hz0, b2⟩
      all_goals
        have HZ := Lib.hid hz0
        clear hz0
        go_wp2
        (refine wp_region_new (by kernel_rfl) (by kernel_rfl) ?_; (repeat (go_big_quiet_step (((go_at_call 101; exact quiet_new (refStE_is HE.out _ k cap _ (by omega) HXS.out (by exact HRT.out.keep (plus_new _ _)))))))); refine wpQuiet_nil ?_)
        intro w2 n2
        go_wp2
      · go_roundw
        case rel => exact ⟨k + 1, by omega, by go_num, fun j hj => by
          rcases Nat.lt_or_ge j k with h | h
          · exact HF.out j h
          · obtain rfl : j = k := by omega
            rw [HCK.out]; exact HZ.out, hN.trans n2⟩
        case measure => simp [intOf]; omega
      · go_ret2
        exact ⟨by rw [HV.out, fb_hit hlt HF.out (by rw [HCK.out]; exact HZ.out), HCK.out]; rfl, hN.trans n2⟩
    · obtain rfl : k = n := by omega
      have HB := Lib.hid (fb_none HF.out)
      go_wp2_with fail
      go_ret2
      exact ⟨by rw [HV.out, HB.out]; rfl, hN⟩
theorem refCkS_is {l : List Sta} {u v : Int} (h1 : (ckS l).1 = u) (h2 : (ckS l).2 = v) (A : Option Addr) (n cap : Nat) (w : World) (hn : n ≤ 1000000) (hcap : n ≤ cap) (hs : ∀ s ∈ l, s.n.size ≤ 1000) (hr : Rd w 6 encSt A n l) :
    Calls Try.prog 42 #[.slice A n cap] w fun e w' => e = .returned (.tuple #[.int .i64 u, .int .i64 v]) ∧ New w w' := h1 ▸ h2 ▸ refCkS_any A n cap l w hn hcap hs hr
theorem refStationsErr_is {l : List Sta} {v : Int} (h : (ckS l).2 = v) (A : Option Addr) (n cap : Nat) (w : World) (hn : n ≤ 1000000) (hcap : n ≤ cap) (hs : ∀ s ∈ l, s.n.size ≤ 1000) (hr : Rd w 6 encSt A n l) :
    Calls Try.prog 54 #[.slice A n cap] w fun e w' => e = .returned (.int .i64 v) ∧ New w w' := by
  subst h
  have HR := Lib.hid hr
  have HS := Lib.hid hs
  clear hr hs
  go_enter Try.func54, Try.ntmps54
  go_wp2_with fail
  refine (refCkS_any A n cap l _ hn hcap HS.out HR.out).mono ?_
  rintro e w1 ⟨rfl, n1⟩
  go_wp2_with fail
  go_ret
  exact ⟨rfl, n1⟩

set_option maxHeartbeats 2000000 in
theorem refCopy_any (A : Option Addr) (n cap : Nat) (l : List Sta) (w : World) (hn : n ≤ 1000000) (hr : Rd w 6 encSt A n l) :
    Calls Try.prog 40 #[.slice A n cap] w fun e w' => New w w' ∧ ∃ B k, e = .returned (.slice B n k) ∧ n ≤ k ∧ Rd w' 6 encSt B n l := by
  obtain ⟨i0, hi, hz0, hz1, hz2⟩ := info_parts infoSta
  have HR := Lib.hid (hr.keep ((New.refl w).alloc (.cells #[] 99)))
  have HO := Lib.hid (Sky.Own.empty w w.heap.size 99 6 encSt_len w.heap.size rfl (Nat.le_refl _))
  have N1 := (New.refl w).alloc (.cells #[] 99)
  clear hr
  go_enter Try.func40, Try.ntmps40
  go_wp2_with (at_builtin; refine wpList_pour _ rfl _ _ 71 rfl 99 i0 _ 6 56 Try.underlying71 hi hz0 hz1 hz2 rfl (by omega) w.heap.size encSt _ 0 0 [] rfl HO.out A n cap l rfl HR.out encSt_one (by simp only [maxLen]; omega) (by omega) N1.size ?_; intro A7 cap7 w7 hown7 hgr7 hN7)
  go_ret
  rw [Nat.zero_add, List.nil_append] at hown7
  exact ⟨hN7 w N1 (Nat.le_refl _), A7, cap7, rfl, hown7.le.1, hown7.rd⟩
end Go.Proofs.Ytaogolnoiffgiaa

namespace Go.Proofs.Ytaogolnoiffgiaa
open Go.RowKit Go.Sky Go.Sky.Ch

def encPl (p : Int × Int) : List Value := [.int .i64 p.1, .int .i64 p.2]
theorem encPl_len (p : Int × Int) : (encPl p).length = 2 := rfl
theorem encPl_one (p : Int × Int) : ∀ u ∈ encPl p, u.oneCell' = true := by intro u hu; simp [encPl] at hu; rcases hu with rfl | rfl <;> rfl
theorem infoPl : (Try.prog.info? 73).map (fun i => (i.zero, i.size, i.bytes)) = some (some (.agg #[.int .i64 0, .int .i64 0]), 2, 16) := by kernel_rfl
end Go.Proofs.Ytaogolnoiffgiaa

namespace Go.Proofs.Ytaogolnoiffgiaa
open Go.RowKit Go.Sky Go.Sky.Ch

set_option maxRecDepth 100000 in
set_option maxHeartbeats 1000000 in
theorem idxFuncPl (g : Nat) (cb : Array Value) (p : Int × Int → Bool) (A : Option Addr) (n cap : Nat) (xs : List (Int × Int)) (w : World) (hn : n ≤ 1000000) (hr : Rd w 2 encPl A n xs) (eg : ∀ (args : Array Value) (W : World), (callFunc g args).run Try.prog W = .ok (.enter g args) W)
    (hp : ∀ x, x ∈ xs → ∀ W, New w W → Calls Try.prog g (#[.agg #[.int .i64 x.1, .int .i64 x.2]] ++ cb) W fun e w' => e = .returned (.bool (p x)) ∧ New W w') :
    Calls Try.prog 103 #[.slice A n cap, .func (.func g) #[] cb] w fun e w' => e = .returned (.int .i64 (idxS p xs)) ∧ New w w' := by
  have HR := Lib.hid hr; clear hr
  have HP := Lib.hid hp; clear hp
  go_enter Try.func103, Try.ntmps103
  go_wp2
  go_loopw [5, 8] (fun _ i wr => ∃ k : Nat, k ≤ n ∧ i = .int .i64 k ∧ Hid (∀ j x, j < k → xs[j]? = some x → p x = false) ∧ New w wr) (fun _ i _ => n - (intOf i).toNat)
  case atStart => exact ⟨0, by omega, rfl, (fun j x hj => absurd hj (by omega)), New.refl _⟩
  case round =>
    obtain ⟨k, hk, rfl, HF, hN⟩ := hrel
    by_cases hlt : k < n
    · obtain ⟨b, o, x, rfl, hb, hx, hc⟩ := (HR.out.keep hN).at_ hlt
      have g0 := hc 0 _ rfl
      have g1 := hc 1 _ rfl
      simp only [Nat.add_zero] at g0
      have HX := Lib.hid hx
      clear hx hc
      obtain ⟨q, hq⟩ : ∃ q, p x = q := ⟨_, rfl⟩
      have HQ := Lib.hid hq
      cases q
      all_goals
        go_wp2_with fail
        refine (HP.out x (List.mem_of_getElem? HX.out) _ hN).mono ?_
        rintro e w1 ⟨he, hn1⟩
        rw [HQ.out] at he
        subst he
        clear hq
      · go_wp2
        go_roundw
        case rel => exact ⟨k + 1, by omega, by go_num, fun j y hj hy => by
          rcases Nat.lt_or_ge j k with h | h
          · exact HF.out j y h hy
          · obtain rfl : j = k := by omega
            have hxy := HX.out
            rw [hy] at hxy
            injection hxy with hxy
            rw [hxy]
            exact HQ.out, hN.trans hn1⟩
        case measure => simp [intOf]; omega
      · go_wp2
        go_ret
        exact ⟨by rw [idxS_hit p xs k x HX.out HQ.out HF.out]; rfl, hN.trans hn1⟩
    · go_wp2
      go_ret
      exact ⟨by rw [idxS_miss p xs n HR.out.len (fun j y hj hy => HF.out j y (by omega) hy)]; rfl, hN⟩
theorem plBad_any (p : Pl) (w : World) : Calls Try.prog 104 #[.agg #[.int .i64 p.1, .int .i64 p.2]] w fun e w' => e = .returned (.bool (plBad p)) ∧ New w w' := by
  have N0 := (New.refl w).alloc (.cells #[.int .i64 p.1, .int .i64 p.2] 73)
  go_enter Try.func104, Try.ntmps104
  go_wp2_with fail
  refine (cIsPlace_any _ _ _).mono ?_
  rintro e w1 ⟨rfl, n1⟩
  go_wp2_with fail
  go_ret
  exact ⟨rfl, N0.trans n1⟩
theorem plBad_idx {c : List Pl} {v : Int} (h : idxS plBad c = v) (A : Option Addr) (n cap : Nat) (w : World) (hn : n ≤ 1000000) (hr : Rd w 2 encPl A n c) :
    Calls Try.prog 103 #[.slice A n cap, .func (.func 104) #[] #[]] w fun e w' => e = .returned (.int .i64 v) ∧ New w w' := by
  subst h
  exact idxFuncPl 104 #[] plBad A n cap c w hn hr (enters_go (f := 104) Try.func104 (by kernel_rfl) rfl) (fun x _ W _ => plBad_any x W)

set_option maxRecDepth 100000 in
set_option maxHeartbeats 4000000 in
theorem cCheckContour_any (A : Option Addr) (n cap : Nat) (c : List Pl) (w : World) (hn : n ≤ 1000000) (hr : Rd w 2 encPl A n c) :
    Calls Try.prog 46 #[.slice A n cap] w fun e w' => e = .returned (.tuple #[.int .i64 (conS c).1, .int .i64 (conS c).2]) ∧ New w w' := by
  have HL := Lib.hid hr.len
  have HR := Lib.hid hr
  clear hr
  by_cases h4 : n < 4
  · have HV := Lib.hid (show conS c = (0, 10) by unfold conS; rw [if_pos (by rw [HL.out]; exact h4)])
    have d0 : decide ((4 : Int) ≤ (n : Int)) = false := decide_eq_false (by omega)
    have d1 : decide ((n : Int) ≤ 200) = true := decide_eq_true (by omega)
    go_enter Try.func46, Try.ntmps46
    go_wp2_with (first | (go_at_call 81; refine (cUnless_any _ _ _).mono ?_; rintro e w' ⟨rfl, rfl⟩; first | rw [show errU false 10 = 10 from rfl] | rw [show errU true 8 = 0 from rfl]) | (go_at_call 80; refine (cFirst_any _ 2 2 [_, _] _ (by omega) rfl (cells_new _ _ _ _ (by simp) _ rfl)).mono ?_; rintro e w' ⟨rfl, rfl⟩; rw [show firstE [10, 0] = 10 from rfl]))
    go_ret2
    exact ⟨by rw [HV.out]; rfl, (New.refl _).alloc _⟩
  have d0 : decide ((4 : Int) ≤ (n : Int)) = true := decide_eq_true (by omega)
  by_cases h2 : 200 < n
  · have HV := Lib.hid (show conS c = (0, 8) by unfold conS; rw [if_neg (by rw [HL.out]; exact h4), if_pos (by rw [HL.out]; exact h2)])
    have d1 : decide ((n : Int) ≤ 200) = false := decide_eq_false (by omega)
    go_enter Try.func46, Try.ntmps46
    go_wp2_with (first | (go_at_call 81; refine (cUnless_any _ _ _).mono ?_; rintro e w' ⟨rfl, rfl⟩; first | rw [show errU true 10 = 0 from rfl] | rw [show errU false 8 = 8 from rfl]) | (go_at_call 80; refine (cFirst_any _ 2 2 [_, _] _ (by omega) rfl (cells_new _ _ _ _ (by simp) _ rfl)).mono ?_; rintro e w' ⟨rfl, rfl⟩; rw [show firstE [0, 8] = 8 from rfl]))
    go_ret2
    exact ⟨by rw [HV.out]; rfl, (New.refl _).alloc _⟩
  have d1 : decide ((n : Int) ≤ 200) = true := decide_eq_true (by omega)
  have HV0 := Lib.hid (show conS c = conM c by unfold conS; rw [if_neg (by rw [HL.out]; exact h4), if_neg (by rw [HL.out]; exact h2)])
  rcases hfi : c.findIdx? plBad with _ | i
  rotate_left
  · have HV := Lib.hid (show conS c = ((i : Int), 2) by rw [HV0.out]; unfold conM; rw [hfi])
    have HI := Lib.hid (show idxS plBad c = (i : Int) by unfold idxS; rw [hfi])
    have d2 : decide ((0 : Int) ≤ (i : Int)) = true := decide_eq_true (by omega)
    clear HV0 hfi
    go_enter Try.func46, Try.ntmps46
    go_wp2_with (first | (go_at_call 81; refine (cUnless_any _ _ _).mono ?_; rintro e w' ⟨rfl, rfl⟩; first | rw [show errU true 10 = 0 from rfl] | rw [show errU true 8 = 0 from rfl]) | (go_at_call 80; refine (cFirst_any _ 2 2 [_, _] _ (by omega) rfl (cells_new _ _ _ _ (by simp) _ rfl)).mono ?_; rintro e w' ⟨rfl, rfl⟩; rw [show firstE [0, 0] = 0 from rfl]))
    refine (plBad_idx HI.out A n cap _ hn (HR.out.keep ((New.refl w).alloc _))).mono ?_
    rintro e w1 ⟨rfl, n1⟩
    go_wp2_with fail
    go_ret2
    exact ⟨by rw [HV.out]; rfl, ((New.refl w).alloc _).trans n1⟩
  · have HV := Lib.hid (show conS c = fb (gapAt c) n by rw [HV0.out]; unfold conM; rw [hfi, ← HL.out])
    have HI := Lib.hid (show idxS plBad c = -1 by unfold idxS; rw [hfi])
    have HPL := Lib.hid (show ∀ p ∈ c, placeOk p.1 p.2 = true by
      intro p hp
      have := List.findIdx?_eq_none_iff.1 hfi p hp
      unfold plBad at this
      simpa using this)
    clear HV0 hfi
    go_enter Try.func46, Try.ntmps46
    go_wp2_with (first | (go_at_call 81; refine (cUnless_any _ _ _).mono ?_; rintro e w' ⟨rfl, rfl⟩; first | rw [show errU true 10 = 0 from rfl] | rw [show errU true 8 = 0 from rfl]) | (go_at_call 80; refine (cFirst_any _ 2 2 [_, _] _ (by omega) rfl (cells_new _ _ _ _ (by simp) _ rfl)).mono ?_; rintro e w' ⟨rfl, rfl⟩; rw [show firstE [0, 0] = 0 from rfl]))
    refine (plBad_idx HI.out A n cap _ hn (HR.out.keep ((New.refl w).alloc _))).mono ?_
    rintro e w1 ⟨rfl, n1⟩
    have N1 := ((New.refl w).alloc _).trans n1
    clear n1
    obtain ⟨m, rfl⟩ : ∃ m, n = m + 1 := ⟨n - 1, by omega⟩
    obtain ⟨b, o, lp, hA, hb, hx, hc⟩ := (HR.out.keep N1).at_ (show m < m + 1 by omega)
    subst hA
    have g0 := hc 0 _ rfl
    have g1 := hc 1 _ rfl
    simp only [Nat.add_zero] at g0
    have HP0 := Lib.hid (show prevP c 0 = lp by unfold prevP; rw [if_pos rfl, HL.out, Nat.add_sub_cancel, hx]; rfl)
    have hge := N1.size
    clear hc
    go_wp2_with fail
    have T0 := Lib.hid (show Bx (w1.alloc (.cells #[.int .i64 lp.1, .int .i64 lp.2] 73)) w1.heap.size 73 #[.int .i64 (prevP c 0).1, .int .i64 (prevP c 0).2] by rw [HP0.out]; exact Bx.mk _ _ _)
    have N2 := N1.alloc (.cells #[.int .i64 lp.1, .int .i64 lp.2] 73)
    obtain ⟨tb, htb⟩ : ∃ b, w1.heap.size = b := ⟨_, rfl⟩
    obtain ⟨W2, hW2⟩ : ∃ W, w1.alloc (.cells #[.int .i64 lp.1, .int .i64 lp.2] 73) = W := ⟨_, rfl⟩
    rw [hW2] at T0 N2 ⊢
    rw [htb] at T0 hge ⊢
    clear g0 g1 hx hb HP0 N1 hW2 htb
    go_loopw [35] (fun i wr => ∃ k : Nat, k ≤ m + 1 ∧ i = .int .i64 (k : Int) ∧ Hid (∀ j, j < k → gapAt c j = 0) ∧ Hid (Bx wr tb 73 #[.int .i64 (prevP c k).1, .int .i64 (prevP c k).2]) ∧ New w wr) (fun i _ => m + 1 - (intOf i).toNat)
    case atStart => exact ⟨0, by omega, rfl, fun j hj => absurd hj (by omega), T0, N2⟩
    case round =>
      clear T0 N2
      obtain ⟨k, hk, rfl, HF, HT, hN⟩ := hrel
      by_cases hlt : k < m + 1
      · obtain ⟨b', o', p, hA, hb, hx, hc⟩ := (HR.out.keep hN).at_ hlt
        injection hA with hA
        injection hA with ea eb ec
        subst ea eb
        have g0 := hc 0 _ rfl
        have g1 := hc 1 _ rfl
        simp only [Nat.add_zero] at g0
        have HPS := Lib.hid (prevP_step hx)
        have b1 := place_bd (HPL.out p (List.mem_of_getElem? hx))
        have b2 := place_bd (HPL.out _ (prevP_mem (c := c) (k := k) (by rw [HL.out]; exact hlt)))
        have HG := Lib.hid (show gapAt c k = if sqS (prevP c k).1 (prevP c k).2 p.1 p.2 = 1 then 0 else 14 by unfold gapAt; rw [hx])
        obtain ⟨r, hr⟩ : ∃ r, sqS (prevP c k).1 (prevP c k).2 p.1 p.2 = r := ⟨_, rfl⟩
        have HSQ := Lib.hid hr
        rw [hr] at HG
        have k0 := HT.out.cell 0
        have k1 := HT.out.cell 1
        have lt0 := HT.out.lt
        have i0' : (0 : Int) ≤ (k : Int) := by omega
        have i1' : (k : Int) < (m : Int) + 1 := by omega
        simp only [List.getElem?_toArray, List.getElem?_cons_zero, List.getElem?_cons_succ] at k0 k1
        clear hx hc hr
        have P1 := Bx.mk wr 73 #[.int .i64 p.1, .int .i64 p.2]
        have T1 := HT.out.alloc (.cells #[.int .i64 p.1, .int .i64 p.2] 73)
        have N1 := hN.alloc (.cells #[.int .i64 p.1, .int .i64 p.2] 73)
        have HP1 := Lib.hid P1
        have HT1 := Lib.hid T1
        clear P1 T1
        go_wp2_with fail
        refine (cSquare_is HSQ.out _ (by omega) (by omega) (by omega) (by omega)).mono ?_
        rintro e w4 ⟨rfl, n4⟩
        have P4 := HP1.out.keep n4
        have T4 := HT1.out.keep n4
        have N4 := N1.trans n4
        have q0 := P4.cell 0
        have q1 := P4.cell 1
        have t0 := T4.cell 0
        have t1 := T4.cell 1
        have f0 := T4.free 0
        have f1 := T4.free 1
        have lp4 := P4.lt
        have lt4 := T4.lt
        simp only [List.getElem?_toArray, List.getElem?_cons_zero, List.getElem?_cons_succ] at q0 q1 t0 t1
        have HT5 := Lib.hid ((T4.set 0 (.int .i64 p.1)).set 1 (.int .i64 p.2))
        have HN5 := Lib.hid ((N4.setCell (p := ⟨tb, 0, none⟩) hge (.int .i64 p.1)).setCell (p := ⟨tb, 1, none⟩) hge (.int .i64 p.2))
        clear P4 T4 n4
        by_cases hr1 : r = 1
        · subst hr1
          go_wp2_with fail
          go_roundw
          case rel => exact ⟨k + 1, by omega, by go_num, fun j hj => by
            rcases Nat.lt_or_ge j k with h | h
            · exact HF.out j h
            · obtain rfl : j = k := by omega
              rw [HG.out]; simp, by unfold Hid; rw [HPS.out]; exact HT5.out, HN5.out⟩
          case measure => simp [intOf]; omega
        · have br : (r != 1) = true := by simpa using hr1
          have HH := Lib.hid (show fb (gapAt c) (m + 1) = ((k : Int), 14) by
            rw [fb_hit hlt HF.out (by rw [HG.out, if_neg hr1]; decide), HG.out, if_neg hr1])
          go_wp2_with fail
          go_ret2
          exact ⟨by rw [HV.out, HH.out]; rfl, N4⟩
      · obtain rfl : k = m + 1 := by omega
        have HH := Lib.hid (fb_none HF.out)
        go_wp2_with fail
        go_ret2
        exact ⟨by rw [HV.out, HH.out]; rfl, hN⟩
theorem cContourErr_any (A : Option Addr) (n cap : Nat) (c : List Pl) (w : World) (hn : n ≤ 1000000) (hr : Rd w 2 encPl A n c) :
    Calls Try.prog 107 #[.slice A n cap] w fun e w' => e = .returned (.int .i64 (conS c).2) ∧ New w w' := by
  have HR := Lib.hid hr
  clear hr
  go_enter Try.func107, Try.ntmps107
  go_wp2_with fail
  refine (cCheckContour_any A n cap c _ hn HR.out).mono ?_
  rintro e w1 ⟨rfl, n1⟩
  go_wp2_with fail
  go_ret
  exact ⟨rfl, n1⟩
end Go.Proofs.Ytaogolnoiffgiaa
