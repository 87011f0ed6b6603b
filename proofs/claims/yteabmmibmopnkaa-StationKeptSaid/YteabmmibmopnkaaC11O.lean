/- The walk of StationKept.
   The walk of StationKept: the inputs of which it says nothing; the whole. -/
import Derived.BigQuiet
import Derived.BigRegion
import Derived.Deep.AppendLies
import Derived.Deep.DeepCutAuto
import Derived.Deep.Draws
import Derived.Deep.Quiet
import Derived.Deep.QuietTactic
import Derived.Laws.BitsAllLaws
import Derived.Lib.Hide
import Derived.Lib.SliceRun
import Derived.OrdersIn
import Derived.OwnWalk
import Derived.OwnWalkIn
import Derived.RangeFuncCalls
import Derived.StillTail
import Derived.TacticsIn
import Derived.Test.YteabmmibmopnkaaProg
import Derived.WalkKit
import Derived.WalkLawsBesides
import Derived.WalkSpells
import Derived.Test.YteabmmibmopnkaaC11N

namespace Go.Proofs.Yteabmmibmopnkaa
open Go.RowKit Go.Sky

set_option maxRecDepth 100000 in
set_option maxHeartbeats 16000000 in
theorem kept_in (x : Sky.Item) (c : Int) (A : Option Addr) (n cap : Nat) (q : List Sky.Item) (w : World) (hcap : n ≤ cap) (hr : Rd w 4 encM A n q) (hfw : fewI n q = true) (hxn : x.n.size ≤ 30) (hE : (queueS q).2 = 0) (hG : putE q x c n = 0) :
    Calls Try.prog 5 #[.slice A n cap, .agg #[.string x.n, .int .i64 x.p, .int .i64 x.z, .int .i64 x.t], .int .i64 c] w fun e w' => e = .returned (.bool true) ∧ New w w' := by
  obtain ⟨i0, hi, hz0, hz1, hz2⟩ := info_parts infoItem
  have heq := eql_items
  have hgu := guard_item
  have HL := Lib.hid hr.len
  have HR := Lib.hid hr; clear hr
  have HFW := Lib.hid hfw
  obtain ⟨h22, hsz⟩ := fewI_yes hfw
  have HX := Lib.hid (show ∀ x ∈ q, x.n.size ≤ 1000 from fun x hx => by have := hsz x hx; omega)
  have HXN := Lib.hid hxn
  clear hfw hsz
  have hl30 : ¬ (30 : Int) < (x.n.size : Int) := by omega
  clear hxn
  have HF := Lib.hid (show putF q x c n = 0 by rw [putF_eq, hE, hG]; rfl)
  have HE := Lib.hid hE
  have HG := Lib.hid hG
  clear hE hG
  obtain ⟨q0, q1, ⟨hc0, hc1⟩, h20⟩ := putF_zero HF.out
  have HRG := Lib.hid (put_range q0 q1)
  clear q0 q1
  have b0 := Bx.mk w 44 #[.string x.n, .int .i64 x.p, .int .i64 x.z, .int .i64 x.t]
  have N0 := (New.refl w).alloc (.cells #[.string x.n, .int .i64 x.p, .int .i64 x.z, .int .i64 x.t] 44)
  go_enter Try.func5, Try.ntmps5
  go_wp2_with fail
  refine (awake_any _).mono ?_
  rintro e w1 ⟨rfl, n1⟩
  have b1 := b0.keep n1
  have N1 := N0.trans n1
  clear b0 N0 n1
  have c0 : w1.cell? ⟨w.heap.size, 0, none⟩ = some (.string x.n) := b1.cell 0
  have l1 := b1.lt
  go_wp2_with fail
  refine (fewItems_any A n cap q _ (HR.out.keep N1)).mono ?_
  rintro e w' ⟨rfl, rfl⟩
  rw [HFW.out]
  go_wp2_with fail
  refine (refQueueErr_any A n cap q _ (by omega) hcap HX.out (HR.out.keep N1)).mono ?_
  rw [HE.out]
  rintro e w2 ⟨rfl, n2⟩
  have b2 := b1.keep n2
  have N2 := N1.trans n2
  clear c0 l1 b1 N1 n2
  have c0 : w2.cell? ⟨w.heap.size, 0, none⟩ = some (.string x.n) := b2.cell 0
  have c1 : w2.cell? ⟨w.heap.size, 1, none⟩ = some (.int .i64 x.p) := b2.cell 1
  have c2 : w2.cell? ⟨w.heap.size, 2, none⟩ = some (.int .i64 x.z) := b2.cell 2
  have c3 : w2.cell? ⟨w.heap.size, 3, none⟩ = some (.int .i64 x.t) := b2.cell 3
  have l2 := b2.lt
  go_wp2_with fail
  refine (refPutErr_any x c A n cap q _ (by omega) (by have := HXN.out; omega) (HR.out.keep N2)).mono ?_
  rw [HG.out]
  rintro e w1 ⟨rfl, n1⟩
  have b1 := b2.keep n1
  have N1 := N2.trans n1
  clear c0 c1 c2 c3 l2 b2 N2 n1
  have c0 : w1.cell? ⟨w.heap.size, 0, none⟩ = some (.string x.n) := b1.cell 0
  have c1 : w1.cell? ⟨w.heap.size, 1, none⟩ = some (.int .i64 x.p) := b1.cell 1
  have c2 : w1.cell? ⟨w.heap.size, 2, none⟩ = some (.int .i64 x.z) := b1.cell 2
  have c3 : w1.cell? ⟨w.heap.size, 3, none⟩ = some (.int .i64 x.t) := b1.cell 3
  have l1 := b1.lt
  go_wp2_with fail
  refine wp_region_takes0 w1 (New.refl _) 1 11 #[true, false, false, false, false, false, false, false, false, false, false, false] (by kernel_rfl) (by kernel_rfl) (by kernel_rfl) (by kernel_rfl) (by kernel_rfl) (by kernel_rfl) ?_
  simp only [List.take_succ_cons, List.take_zero]
  (repeat (go_big_quiet_step ((fail))))
  refine wpQuiet_nil ?_
  intro W1 n1
  refine take_next 2 2 #[true, false, true, true, false, false, false, false, false, false, false, false] rfl (by kernel_rfl) (by kernel_rfl) (by kernel_rfl) (by kernel_rfl) (by decide) ?_
  simp only [List.take_succ_cons, List.take_zero, List.drop_succ_cons, List.drop_zero]
  (repeat (go_big_quiet_step ((fail))))
  refine wpQuiet_nil ?_
  refine one_next 1 (by kernel_rfl) (new_plus n1) (wpOpIn_list rfl ?_)
  gi_wp2_with fail
  refine ⟨trivial, callsIn_wide.2 ((copyItems_any A n cap q _ (by omega) (HR.out.keep (N1.trans n1))).mono ?_)⟩
  rintro e w2 ⟨A2, c2', rfl, o2, n2⟩
  have hc2 := o2.le.1
  have HR2 := Lib.hid o2.rd
  have nn2 := n1.trans n2
  clear o2 n1 n2
  gi_wp2
  refine one_next 4 (by kernel_rfl) (new_plus nn2) (wpOpIn_list rfl ?_)
  gi_wp2_with fail
  refine ⟨trivial, callsIn_wide.2 ((put_any x c q A2 n c2' _ (by omega) hc2 HX.out (by have := HXN.out; omega) HR2.out).mono ?_)⟩
  rw [HF.out]
  rintro e w3 ⟨n3, ⟨hne, rfl⟩ | ⟨_, A5, m5, c5, A6, m6, c6, xs, ds, rfl, hpost⟩⟩
  · exact absurd rfl hne
  have nn3 := nn2.trans n3
  obtain ⟨r1, r2, kp, _, htot⟩ := hpost
  have HR1 := Lib.hid r1
  have HR22 := Lib.hid r2
  have HKP := Lib.hid kp
  have HTOT := Lib.hid htot
  have hsum : m5 + m6 = n + 1 := by
    have h1 := kp.len
    have h2 := r1.len
    have h3 := r2.len
    have h4 := HL.out
    rw [List.length_append, List.length_singleton] at h1
    omega
  have HRX := Lib.hid (show ∀ y ∈ xs, 1 ≤ y.z ∧ y.z ≤ 10000 from fun y hy => HRG.out y (kp.sub.subset hy))
  clear nn2 n3 HR2 r1 r2 kp htot
  gi_wp2
  refine take_next 5 7 #[true, true, true, true, true, true, true, true, true, true, true, true] rfl (by kernel_rfl) (by kernel_rfl) (by kernel_rfl) (by kernel_rfl) (by decide) ?_
  simp only [List.take_succ_cons, List.take_zero, List.drop_succ_cons, List.drop_zero]
  (repeat (go_big_quiet_step ((fail))))
  refine wpQuiet_nil ?_
  refine end_any (new_plus nn3) (by kernel_rfl) ?_
  have b3 := b1.keep nn3
  have N3 := N1.trans nn3
  clear c0 c1 c2 c3 l1 b1 N1 nn3
  have d0 : ((m5 : Int) + (m6 : Int) != (n : Int) + 1) = false := by simp; omega
  go_wp2_with fail
  go_loopw [10, 11] (fun s i wr => ∃ k : Nat, k ≤ m5 ∧ i = .int .i64 (k : Int) ∧ s = .int .i64 (foldTo addZ 0 xs k) ∧ New w3 wr) (fun _ i _ => m5 - (intOf i).toNat)
  case atStart => exact ⟨0, by omega, rfl, rfl, New.refl _⟩
  case round =>
    obtain ⟨k, hk, rfl, rfl, nk⟩ := hrel
    by_cases hlt : k < m5
    · obtain ⟨b, o, y, rfl, hb, hy, hcy⟩ := (HR1.out.keep nk).at_ hlt
      have g0 := hcy 0 _ rfl
      have g2 := hcy 2 _ rfl
      simp only [Nat.add_zero] at g0
      have HST := Lib.hid (foldTo_step addZ 0 xs k y hy)
      have hS := total_in (xs := xs) (fun y hy => by have := HRX.out y hy; omega) k (by have := HR1.out.len; omega)
      have hyz := HRX.out y (List.mem_of_getElem? hy)
      have HNO := Lib.hid (kept_stays HKP.out (List.mem_of_getElem? hy))
      obtain ⟨S, hSS⟩ : ∃ S, foldTo addZ 0 xs k = S := ⟨_, rfl⟩
      rw [hSS] at HST hS ⊢
      obtain ⟨s0, s1⟩ := hS
      obtain ⟨z0, z1⟩ := hyz
      have HW := Lib.hid (show inR y.z 1 10000 = true by unfold inR; exact decide_eq_true ⟨z0, z1⟩)
      clear hSS hy hcy
      go_wp2_with fail
      refine (bWithin_is _ _ _ true _ HW.out).mono ?_
      rintro e w' ⟨rfl, rfl⟩
      go_wp2_with fail
      refine (hasText_any y.n A6 m6 c6 ds _ (by omega) (HR22.out.keep nk)).mono ?_
      rw [HNO.out]
      rintro e w' ⟨rfl, rfl⟩
      go_wp2_with fail
      go_roundw
      case rel => exact ⟨k + 1, by omega, by go_num, by rw [HST.out]; rfl, nk⟩
      case measure => simp [intOf]; omega
    · obtain rfl : m5 = k := by omega
      have HV := Lib.hid (show foldTo addZ 0 xs m5 = totalI xs by unfold totalI; rw [HR1.out.len])
      rw [HV.out]
      obtain ⟨T, hT⟩ : ∃ T, totalI xs = T := ⟨_, rfl⟩
      have htc : T ≤ c := by have := HTOT.out; omega
      rw [hT]
      clear hT
      have N4 := N3.trans nk
      have b4 := b3.keep nk
      have c0 : wr.cell? ⟨w.heap.size, 0, none⟩ = some (.string x.n) := b4.cell 0
      have c1 : wr.cell? ⟨w.heap.size, 1, none⟩ = some (.int .i64 x.p) := b4.cell 1
      have c2 : wr.cell? ⟨w.heap.size, 2, none⟩ = some (.int .i64 x.z) := b4.cell 2
      have c3 : wr.cell? ⟨w.heap.size, 3, none⟩ = some (.int .i64 x.t) := b4.cell 3
      have l4 := b4.lt
      obtain ⟨W4, hW4⟩ : ∃ W4, wr = W4 := ⟨_, rfl⟩
      rw [hW4] at nk N4 b4 c0 c1 c2 c3 l4 ⊢
      clear hW4
      go_upto_region 17 with fail
      go_cut [12] from 94 to 98 (fun s12 wx => ∃ (A7 : Option Addr) (c7 : Nat), s12 = .slice A7 (n + 1) c7 ∧ Rd wx 4 encM A7 (n + 1) (q ++ [x]) ∧ New W4 wx)
      case first =>
       refine wp_region_takes0 W4 (New.refl _) 1 5 #[true, false, false, false, false, false] (by kernel_rfl) (by kernel_rfl) (by kernel_rfl) (by kernel_rfl) (by kernel_rfl) (by kernel_rfl) ?_
       simp only [List.take_succ_cons, List.take_zero]
       (repeat (go_big_quiet_step ((fail))))
       refine wpQuiet_nil ?_
       intro W3 n3
       refine take_next 2 1 #[true, false, true, false, false, false] rfl (by kernel_rfl) (by kernel_rfl) (by kernel_rfl) (by kernel_rfl) (by decide) ?_
       simp only [List.take_succ_cons, List.take_zero, List.drop_succ_cons, List.drop_zero]
       (repeat (go_big_quiet_step ((fail))))
       refine wpQuiet_nil ?_
       refine two_next 1 3 (by kernel_rfl) (new_plus n3) ?o1 ?o2
       case' o1 =>
         refine wpOpIn_list rfl ?_
         gi_wp2_with fail
         refine ⟨trivial, callsIn_wide.2 ((copyItems_any A n cap q _ (by omega) (HR.out.keep (N4.trans n3))).mono ?_)⟩
         rintro e w4 ⟨A1, cap1, rfl, hown1, n4⟩
         gi_wp2
         refine one_next 3 (by kernel_rfl) (new_plus (n3.trans n4)) (wpOpIn_list rfl ?_)
         gi_wp2
         have nn := (n3.trans n4).alloc (.cells #[.string x.n, .int .i64 x.p, .int .i64 x.z, .int .i64 x.t] 44)
         have ho := (hown1.base_le (base' := W4.heap.size) n3.size).alloc (.cells #[.string x.n, .int .i64 x.p, .int .i64 x.z, .int .i64 x.t] 44)
         have hb := Bx.mk w4 44 #[.string x.n, .int .i64 x.p, .int .i64 x.z, .int .i64 x.t]
         obtain ⟨W5, hW5⟩ : ∃ W5, w4.alloc (.cells #[.string x.n, .int .i64 x.p, .int .i64 x.z, .int .i64 x.t] 44) = W5 := ⟨_, rfl⟩
         rw [hW5] at nn ho hb ⊢
         obtain ⟨B5, hB5⟩ : ∃ B5, w4.heap.size = B5 := ⟨_, rfl⟩
         rw [hB5] at hb ⊢
         clear hW5 hB5 hown1 n4
       case' o2 =>
         refine wpOpIn_list rfl ?_
         gi_wp2
         have n1b := n3.alloc (.cells #[.string x.n, .int .i64 x.p, .int .i64 x.z, .int .i64 x.t] 44)
         refine one_next 1 (by kernel_rfl) (new_plus n1b) (wpOpIn_list rfl ?_)
         gi_wp2_with fail
         refine ⟨trivial, callsIn_wide.2 ((copyItems_any A n cap q _ (by omega) (HR.out.keep (N4.trans n1b))).mono ?_)⟩
         rintro e W5 ⟨A1, cap1, rfl, hown1, n4⟩
         gi_wp2
         have nn := n1b.trans n4
         have ho := hown1.base_le (base' := W4.heap.size) n1b.size
         have hb := (Bx.mk W3 44 #[.string x.n, .int .i64 x.p, .int .i64 x.z, .int .i64 x.t]).keep n4
         obtain ⟨B5, hB5⟩ : ∃ B5, W3.heap.size = B5 := ⟨_, rfl⟩
         rw [hB5] at hb ⊢
         clear hB5 hown1 n4 n1b
       all_goals
         refine one_next 4 (by kernel_rfl) (new_plus nn) (wpOpIn_list rfl ?_)
         refine wpListIn_flow _ rfl _ _ 42 rfl 44 i0 _ 4 40 Try.underlying42 hi hz0 hz1 hz2 rfl (by omega) W4.heap.size encM A1 n cap1 q rfl (by exact ho) (some ⟨B5, 0, none⟩) 1 1 [x] rfl (by exact rd_bx hb encM_len [x] rfl 1 rfl) encM_one (by unfold maxLen; omega) (by omega) (by exact nn.size) ?_
         intro A6' c6' w6 hown6 hg6 hN6
         gi_wp2
         have n6 := hN6 W4 nn (Nat.le_refl _)
         clear hN6 hg6 ho hb nn
         refine one_next 5 (by kernel_rfl) (new_plus n6) (wpOpIn_list rfl ?_)
         gi_wp2
         refine end_any (new_plus n6) (by kernel_rfl) ?_
         go_wp2_with fail
         go_meet
         exact ⟨A6', c6', rfl, hown6.rd, n6⟩
      case rest =>
        obtain ⟨A7, c7, rfl, hall, n6⟩ := hcut
        have N6 := N4.trans n6
        have HALL := Lib.hid hall
        have n36 := nk.trans n6
        have HRx := Lib.hid (HR1.out.keep n36)
        have HRd := Lib.hid (HR22.out.keep n36)
        clear hall n36 n6 N4 b4 c0 c1 c2 c3 l4 nk HV
        generalize wc = w6 at *
        go_wp2_with fail
        go_loopw [13, 14, 15, 16] (fun i _ _ _ wx => ∃ k : Nat, k ≤ n + 1 ∧ i = .int .i64 (k : Int) ∧ New w6 wx) (fun i _ _ _ _ => n + 1 - (intOf i).toNat)
        case atStart => exact ⟨0, by omega, rfl, New.refl _⟩
        case round =>
          obtain ⟨k, hk, rfl, nk⟩ := hrel
          by_cases hlt : k < n + 1
          · obtain ⟨by', oy, y, rfl, hby, hy, hcy⟩ := HALL.out.at_ hlt
            have y0 := hcy 0 _ rfl
            have y1 := hcy 1 _ rfl
            have y2 := hcy 2 _ rfl
            have y3 := hcy 3 _ rfl
            simp only [Nat.add_zero] at y0
            have HEA := Lib.hid (kept_each HKP.out (List.mem_of_getElem? hy))
            have k0 : (0 : Int) ≤ (k : Int) := by omega
            have k1 : (k : Int) < (n : Int) + 1 := by omega
            have k00 := nk.cell y0
            clear hy hcy
            go_wp2_with fail
            go_loopw [14, 15] (fun st j wy => ∃ (j' : Nat) (S : Bool), j' ≤ m5 ∧ j = .int .i64 (j' : Int) ∧ st = .bool S ∧ Hid (S = (xs.take j').any (fun z => eqI z y)) ∧ New w6 wy) (fun _ j _ => m5 - (intOf j).toNat)
            case atStart => exact ⟨0, false, by omega, rfl, rfl, rfl, nk⟩
            case round =>
              obtain ⟨j, S, hj, rfl, rfl, HS, nj⟩ := hrel
              by_cases hjl : j < m5
              · obtain ⟨bz, oz, z, rfl, hbz, hz, hcz⟩ := (HRx.out.keep nj).at_ hjl
                have z0 := hcz 0 _ rfl
                have z1 := hcz 1 _ rfl
                have z2 := hcz 2 _ rfl
                have z3 := hcz 3 _ rfl
                simp only [Nat.add_zero] at z0
                have hbw := Nat.lt_of_lt_of_le hby nj.size
                have v0 := nj.cell y0
                have v1 := nj.cell y1
                have v2 := nj.cell y2
                have v3 := nj.cell y3
                have HST := Lib.hid (show (xs.take (j + 1)).any (fun z => eqI z y) = (S || eqI z y) by rw [take_snoc xs j z hz, List.any_append, ← HS.out]; simp)
                have j0 : (0 : Int) ≤ (j : Int) := by omega
                have j1 : (j : Int) < (m5 : Int) := by omega
                clear hz hcz
                cases S
                · go_wp2
                  (refine wp_region_new (by kernel_rfl) (by kernel_rfl) ?_; (repeat (go_big_quiet_step ((fail)))); refine wpQuiet_nil ?_)
                  intro w9 n9
                  go_wp2
                  go_roundw
                  case rel => exact ⟨j + 1, eqI z y, by omega, by go_num, rfl, by unfold Hid; rw [HST.out]; rfl, nj.trans n9⟩
                  case measure => simp [intOf]; omega
                · go_wp2
                  (refine wp_region_new (by kernel_rfl) (by kernel_rfl) ?_; (repeat (go_big_quiet_step ((fail)))); refine wpQuiet_nil ?_)
                  intro w9 n9
                  go_wp2
                  go_roundw
                  case rel => exact ⟨j + 1, true, by omega, by go_num, rfl, by unfold Hid; rw [HST.out]; rfl, nj.trans n9⟩
                  case measure => simp [intOf]; omega
              · obtain rfl : m5 = j := by omega
                have HS2 := Lib.hid (show S = xs.any (fun z => eqI z y) by rw [HS.out, List.take_of_length_le (by have := HRx.out.len; omega)])
                have v0 := nj.cell y0
                have HY1 := Lib.hid y1
                have HY3 := Lib.hid y3
                clear y0 y1 y2 y3
                rcases HEA.out with ⟨e1, e2⟩ | ⟨e1, e2, e3⟩
                · have d1 : S = true := HS2.out.trans e1
                  have HNO := Lib.hid e2
                  clear e1 e2
                  subst d1
                  go_wp2_with fail
                  refine (hasText_any y.n A6 m6 c6 ds _ (by omega) (HRd.out.keep nj)).mono ?_
                  rw [HNO.out]
                  rintro e w' ⟨rfl, rfl⟩
                  go_wp2_with fail
                  go_loopw [16] (fun j wy => j = .int .i64 0 ∧ New w6 wy) (fun _ _ => 0)
                  case atStart => exact ⟨rfl, nj⟩
                  case round =>
                    obtain ⟨rfl, nz⟩ := hrel
                    have dm : (0 : Int) ≤ (m5 : Int) := by omega
                    by_cases hm5 : (0 : Int) < (m5 : Int)
                    all_goals
                      go_wp2_with fail
                      go_roundw
                      case rel => exact ⟨k + 1, by omega, by go_num, nz⟩
                      case measure => simp [intOf]; omega
                · have d1 : S = false := HS2.out.trans e1
                  have HNO := Lib.hid e2
                  have HLE := Lib.hid e3
                  clear e1 e2 e3
                  subst d1
                  go_wp2_with fail
                  refine (hasText_any y.n A6 m6 c6 ds _ (by omega) (HRd.out.keep nj)).mono ?_
                  rw [HNO.out]
                  rintro e w' ⟨rfl, rfl⟩
                  go_wp2_with fail
                  go_loopw [16] (fun j wy => ∃ j' : Nat, j' ≤ m5 ∧ j = .int .i64 (j' : Int) ∧ New w6 wy) (fun j _ => m5 - (intOf j).toNat)
                  case atStart => exact ⟨0, by omega, rfl, nj⟩
                  case round =>
                    clear nj v0
                    obtain ⟨j', hj', rfl, nz⟩ := hrel
                    by_cases hjl' : j' < m5
                    · obtain ⟨bz, oz, z, rfl, hbz, hz, hcz⟩ := (HRx.out.keep nz).at_ hjl'
                      have z1 := hcz 1 _ rfl
                      have z3 := hcz 3 _ rfl
                      have hbw := Nat.lt_of_lt_of_le hby nz.size
                      have v1 := nz.cell HY1.out
                      have v3 := nz.cell HY3.out
                      obtain ⟨p1, p2⟩ := HLE.out z (List.mem_of_getElem? hz)
                      have j0 : (0 : Int) ≤ (j' : Int) := by omega
                      have j1 : (j' : Int) < (m5 : Int) := by omega
                      clear hz hcz
                      have t1 : decide (z.p < y.p) = false := decide_eq_false (by omega)
                      by_cases hp : y.p = z.p
                      · have t2 : (y.p == z.p) = true := by simpa using hp
                        have t3 : decide (y.t < z.t) = false := decide_eq_false (by have := p2 hp; omega)
                        clear hp p1 p2
                        go_wp2
                        (refine wp_region_new (by kernel_rfl) (by kernel_rfl) ?_; (repeat (go_big_quiet_step ((fail)))); refine wpQuiet_nil ?_)
                        intro w9 n9
                        go_wp2
                        go_roundw
                        case rel => exact ⟨j' + 1, by omega, by go_num, nz.trans n9⟩
                        case measure => simp [intOf]; omega
                      · have t2 : (y.p == z.p) = false := by simpa using hp
                        clear hp p1 p2
                        go_wp2
                        (refine wp_region_new (by kernel_rfl) (by kernel_rfl) ?_; (repeat (go_big_quiet_step ((fail)))); refine wpQuiet_nil ?_)
                        intro w9 n9
                        go_wp2
                        go_roundw
                        case rel => exact ⟨j' + 1, by omega, by go_num, nz.trans n9⟩
                        case measure => simp [intOf]; omega
                    · obtain rfl : m5 = j' := by omega
                      go_wp2_with fail
                      go_roundw
                      case rel => exact ⟨k + 1, by omega, by go_num, nz⟩
                      case measure => simp [intOf]; omega
          · obtain rfl : k = n + 1 := by omega
            go_wp2_with fail
            go_ret
            exact ⟨rfl, N6.trans nk⟩
end Go.Proofs.Yteabmmibmopnkaa

namespace Go.Proofs.Yteabmmibmopnkaa
open Go.RowKit Go.Sky

set_option maxRecDepth 100000 in
set_option maxHeartbeats 4000000 in
theorem kept_any (x : Sky.Item) (c : Int) (A : Option Addr) (n cap : Nat) (q : List Sky.Item) (w : World) (hcap : n ≤ cap) (hr : Rd w 4 encM A n q) :
    Calls Try.prog 5 #[.slice A n cap, .agg #[.string x.n, .int .i64 x.p, .int .i64 x.z, .int .i64 x.t], .int .i64 c] w fun e w' => e = .returned (.bool true) ∧ New w w' := by
  obtain ⟨fw, hfw⟩ : ∃ b, fewI n q = b := ⟨_, rfl⟩
  obtain ⟨E, hE⟩ : ∃ E, (queueS q).2 = E := ⟨_, rfl⟩
  obtain ⟨G, hG⟩ : ∃ G, putE q x c n = G := ⟨_, rfl⟩
  have N0 := (New.refl w).alloc (.cells #[.string x.n, .int .i64 x.p, .int .i64 x.z, .int .i64 x.t] 44)
  have b0 := Bx.mk w 44 #[.string x.n, .int .i64 x.p, .int .i64 x.z, .int .i64 x.t]
  by_cases hxn : x.n.size ≤ 30
  · cases fw
    · have HFW := Lib.hid hfw
      have HR := Lib.hid hr
      clear hfw hr
      go_enter Try.func5, Try.ntmps5
      go_wp2_with fail
      refine (awake_any _).mono ?_
      rintro e w1 ⟨rfl, n1⟩
      have N1 := N0.trans n1
      go_wp2_with fail
      refine (fewItems_any A n cap q _ (HR.out.keep N1)).mono ?_
      rintro e w' ⟨rfl, rfl⟩
      rw [HFW.out]
      go_wp2
      go_ret
      exact ⟨rfl, N1⟩
    · by_cases h0 : E = 0
      · by_cases h1 : G = 0
        · exact kept_in x c A n cap q w hcap hr hfw hxn (hE.trans h0) (hG.trans h1)
        · obtain ⟨h22, hsz⟩ := fewI_yes hfw
          have HX := Lib.hid (show ∀ x ∈ q, x.n.size ≤ 1000 from fun x hx => by have := hsz x hx; omega)
          have HXN := Lib.hid hxn
          have HFW := Lib.hid hfw
          have HR := Lib.hid hr
          have HE := Lib.hid (hE.trans h0)
          have HG := Lib.hid hG
          have hl30 : ¬ (30 : Int) < (x.n.size : Int) := by omega
          have dG : (G != 0) = true := by simpa using h1
          clear hfw hr hsz hxn h0 h1 hE hG
          go_enter Try.func5, Try.ntmps5
          go_wp2_with fail
          refine (awake_any _).mono ?_
          rintro e w1 ⟨rfl, n1⟩
          have N1 := N0.trans n1
          have b1 := b0.keep n1
          clear N0 b0 n1
          have c0 : w1.cell? ⟨w.heap.size, 0, none⟩ = some (.string x.n) := b1.cell 0
          have l1 := b1.lt
          go_wp2_with fail
          refine (fewItems_any A n cap q _ (HR.out.keep N1)).mono ?_
          rintro e w' ⟨rfl, rfl⟩
          rw [HFW.out]
          go_wp2_with fail
          refine (refQueueErr_any A n cap q _ (by omega) hcap HX.out (HR.out.keep N1)).mono ?_
          rw [HE.out]
          rintro e w2 ⟨rfl, n2⟩
          have b2 := b1.keep n2
          have N2 := N1.trans n2
          clear c0 l1 b1 N1 n2
          have c0 : w2.cell? ⟨w.heap.size, 0, none⟩ = some (.string x.n) := b2.cell 0
          have c1 : w2.cell? ⟨w.heap.size, 1, none⟩ = some (.int .i64 x.p) := b2.cell 1
          have c2 : w2.cell? ⟨w.heap.size, 2, none⟩ = some (.int .i64 x.z) := b2.cell 2
          have c3 : w2.cell? ⟨w.heap.size, 3, none⟩ = some (.int .i64 x.t) := b2.cell 3
          have l2 := b2.lt
          go_wp2_with fail
          refine (refPutErr_any x c A n cap q _ (by omega) (by have := HXN.out; omega) (HR.out.keep N2)).mono ?_
          rw [HG.out]
          rintro e w3 ⟨rfl, n3⟩
          go_wp2
          go_ret
          exact ⟨rfl, N2.trans n3⟩
      · obtain ⟨h22, hsz⟩ := fewI_yes hfw
        have HX := Lib.hid (show ∀ x ∈ q, x.n.size ≤ 1000 from fun x hx => by have := hsz x hx; omega)
        have HFW := Lib.hid hfw
        have HR := Lib.hid hr
        have HE := Lib.hid hE
        have hl30 : ¬ (30 : Int) < (x.n.size : Int) := by omega
        have dE : (E != 0) = true := by simpa using h0
        clear hfw hr hsz hxn h0 hE hG
        go_enter Try.func5, Try.ntmps5
        go_wp2_with fail
        refine (awake_any _).mono ?_
        rintro e w1 ⟨rfl, n1⟩
        have N1 := N0.trans n1
        have b1 := b0.keep n1
        clear N0 b0 n1
        have c0 : w1.cell? ⟨w.heap.size, 0, none⟩ = some (.string x.n) := b1.cell 0
        have l1 := b1.lt
        go_wp2_with fail
        refine (fewItems_any A n cap q _ (HR.out.keep N1)).mono ?_
        rintro e w' ⟨rfl, rfl⟩
        rw [HFW.out]
        go_wp2_with fail
        refine (refQueueErr_any A n cap q _ (by omega) hcap HX.out (HR.out.keep N1)).mono ?_
        rw [HE.out]
        rintro e w2 ⟨rfl, n2⟩
        go_wp2
        go_ret
        exact ⟨rfl, N1.trans n2⟩
  · have HFW := Lib.hid hfw
    have HR := Lib.hid hr
    have hl30 : (30 : Int) < (x.n.size : Int) := by omega
    clear hfw hr hxn hE hG
    go_enter Try.func5, Try.ntmps5
    go_wp2_with fail
    refine (awake_any _).mono ?_
    rintro e w1 ⟨rfl, n1⟩
    have N1 := N0.trans n1
    have b1 := b0.keep n1
    clear N0 b0 n1
    have c0 : w1.cell? ⟨w.heap.size, 0, none⟩ = some (.string x.n) := b1.cell 0
    have l1 := b1.lt
    go_wp2_with fail
    refine (fewItems_any A n cap q _ (HR.out.keep N1)).mono ?_
    rintro e w' ⟨rfl, rfl⟩
    rw [HFW.out]
    cases fw
    all_goals
      go_wp2
      go_ret
      exact ⟨rfl, N1⟩
end Go.Proofs.Yteabmmibmopnkaa
