/- Contracts: the sun at a quarter.
   Contracts: the reference of light.
   Contracts: the reference's sun. -/
import Derived.BigQuiet
import Derived.Deep.AppendLies
import Derived.Deep.Draws
import Derived.Deep.Quiet
import Derived.Deep.QuietTactic
import Derived.Laws.BitsAllLaws
import Derived.Laws.Rows
import Derived.Lib.Hide
import Derived.MapKept
import Derived.Maps.Keyed
import Derived.OrdersIn
import Derived.OwnWalkIn
import Derived.RangeFuncCalls
import Derived.Shelf.RegionOpen
import Derived.StillTail
import Derived.TacticsIn
import Derived.Test.YtaogolnoiffgiaaProg
import Derived.WalkKit
import Derived.WalkLawsBesides
import Derived.WalkSpells
import Derived.Test.YtaogolnoiffgiaaC18F
import Derived.Test.YtaogolnoiffgiaaC18H
import Derived.Test.YtaogolnoiffgiaaC18S

namespace Go.Proofs.Ytaogolnoiffgiaa
open Go.RowKit Go.Sky Go.Sky.Ch

theorem sunS_bd {v : Ve} (h : (-1000 ≤ v.x ∧ v.x ≤ 1000) ∧ (-1000 ≤ v.y ∧ v.y ≤ 1000) ∧ (-1000 ≤ v.z ∧ v.z ≤ 1000)) : ∀ n, (-1000 ≤ (sunS v n).x ∧ (sunS v n).x ≤ 1000) ∧ (-1000 ≤ (sunS v n).y ∧ (sunS v n).y ≤ 1000) ∧ (-1000 ≤ (sunS v n).z ∧ (sunS v n).z ≤ 1000)
  | 0 => h
  | n + 1 => by
    have := sunS_bd h n
    show (-1000 ≤ (sunS v n).y ∧ (sunS v n).y ≤ 1000) ∧ (-1000 ≤ -(sunS v n).x ∧ -(sunS v n).x ≤ 1000) ∧ (-1000 ≤ (sunS v n).z ∧ (sunS v n).z ≤ 1000)
    omega
set_option maxRecDepth 100000 in
set_option maxHeartbeats 4000000 in
theorem cSunAt_any (v : Ve) (q : Int) (w : World) :
    Calls Try.prog 33 #[.agg #[.int .i64 v.x, .int .i64 v.y, .int .i64 v.z], .int .i64 q] w fun e w' => New w w' ∧
      ((∃ r, sunE v q = r ∧ r ≠ 0 ∧ e = .returned (.tuple #[.agg #[.int .i64 0, .int .i64 0, .int .i64 0], .int .i64 r])) ∨
       (sunE v q = 0 ∧ e = .returned (.tuple #[.agg #[.int .i64 (sunS v (q % 4).toNat).x, .int .i64 (sunS v (q % 4).toNat).y, .int .i64 (sunS v (q % 4).toNat).z], .int .i64 0]))) := by
  have N0 := ((New.refl w).alloc (.cells #[.int .i64 v.x, .int .i64 v.y, .int .i64 v.z] 65)).alloc (.cells #[.int .i64 0, .int .i64 0, .int .i64 0] 59)
  have b0 := (Bx.mk w 65 #[.int .i64 v.x, .int .i64 v.y, .int .i64 v.z]).alloc (.cells #[.int .i64 0, .int .i64 0, .int .i64 0] 59)
  have b1 := Bx.mk_at (w.alloc (.cells #[.int .i64 v.x, .int .i64 v.y, .int .i64 v.z] 65)) 59 #[.int .i64 0, .int .i64 0, .int .i64 0] (w.heap.size + 1) (by simp)
  obtain ⟨W2, hW2⟩ : ∃ W2, (w.alloc (.cells #[.int .i64 v.x, .int .i64 v.y, .int .i64 v.z] 65)).alloc (.cells #[.int .i64 0, .int .i64 0, .int .i64 0] 59) = W2 := ⟨_, rfl⟩
  rw [hW2] at b0 b1 N0
  have c0 : W2.cell? ⟨w.heap.size, 0, none⟩ = some (.int .i64 v.x) := b0.cell 0
  have c1 : W2.cell? ⟨w.heap.size, 1, none⟩ = some (.int .i64 v.y) := b0.cell 1
  have c2 : W2.cell? ⟨w.heap.size, 2, none⟩ = some (.int .i64 v.z) := b0.cell 2
  have l0 := b0.lt
  have l1 := b1.lt
  obtain ⟨r, hr⟩ : ∃ u, sunE v q = u := ⟨_, rfl⟩
  have HV := Lib.hid (show firstE [vecE v, errU (inR q 0 1000000000000) 2] = r from hr)
  have HB0 := Lib.hid b0
  have HB1 := Lib.hid b1
  have HQ := Lib.hid hr
  clear hr b0 b1
  go_enter Try.func33, Try.ntmps33
  go_wp2_with fail
  try rw [hW2]
  clear hW2
  refine (cVectorErr_any v _).mono ?_
  rintro e w3 ⟨rfl, n3⟩
  have B3 := HB0.out.keep n3
  have C3 := HB1.out.keep n3
  have N3 := N0.trans n3
  clear c0 c1 c2 l0 l1 N0 n3
  have l3 := B3.lt
  have l4 := C3.lt
  have g0 := B3.cell 0
  have g1 := B3.cell 1
  have g2 := B3.cell 2
  have k0 := C3.cell 0
  have k1 := C3.cell 1
  have k2 := C3.cell 2
  have f0 := C3.free 0
  have f1 := C3.free 1
  have f2 := C3.free 2
  simp only [List.getElem?_toArray, List.getElem?_cons_zero, List.getElem?_cons_succ] at g0 g1 g2 k0 k1 k2
  have hge : w.heap.size ≤ w.heap.size + 1 := Nat.le_succ _
  have HC3 := Lib.hid C3
  have HB3 := Lib.hid B3
  have HN3 := Lib.hid N3
  by_cases hr0 : r = 0
  · subst hr0
    have hz := firstE_zero HQ.out
    have hve := vecE_zero (hz (vecE v) (by simp))
    have hq := inR_iff.1 (errU_nil (by decide) (hz (errU (inR q 0 1000000000000) 2) (by simp)))
    have HBD := Lib.hid (sunS_bd ⟨hve.1, hve.2.1, hve.2.2.1⟩)
    clear hz hve B3 C3 N3
    go_wp2_with (first | (go_at_call 95; refine (cWithin_any _ _ _ _).mono ?_; rintro e w' ⟨rfl, rfl⟩) | (go_at_call 81; refine (cUnless_any _ _ _).mono ?_; rintro e w' ⟨rfl, rfl⟩) | (go_at_call 80; refine (cFirst_any _ 2 2 [_, _] _ (by omega) rfl (cells_new _ _ _ _ (by simp) _ rfl)).mono ?_; rintro e w' ⟨rfl, rfl⟩; rw [HV.out]))
    obtain ⟨W4, hW4⟩ : ∃ W4, w3.alloc (.cells { toList := Value.int .i64 (vecE v) :: encI (errU (inR q 0 1000000000000) 2) } 30) = W4 := ⟨_, rfl⟩
    have hs4 : W4.heap.size = w3.heap.size + 1 := by rw [← hW4]; simp
    have n4 : New w3 W4 := hW4 ▸ (New.refl w3).alloc _
    rw [hW4]
    have T5 := Lib.hid (Bx.mk_at W4 59 #[.int .i64 v.x, .int .i64 v.y, .int .i64 v.z] (w3.heap.size + 1) hs4.symm)
    have HC5 := Lib.hid ((HC3.out.keep n4).alloc (.cells #[.int .i64 v.x, .int .i64 v.y, .int .i64 v.z] 59))
    have HN5 := Lib.hid ((HN3.out.trans n4).alloc (.cells #[.int .i64 v.x, .int .i64 v.y, .int .i64 v.z] 59))
    obtain ⟨tb, htb⟩ : ∃ b, w3.heap.size + 1 = b := ⟨_, rfl⟩
    obtain ⟨rb, hrb⟩ : ∃ b, w.heap.size + 1 = b := ⟨_, rfl⟩
    have hrt : rb ≠ tb := by omega
    have htw : w.heap.size ≤ tb := by omega
    rw [hrb] at HC5 hge
    rw [htb] at T5
    rw [htb, hrb]
    clear hW4 n4 hs4 HC3 HB3 HN3 g0 g1 g2 k0 k1 k2 f0 f1 f2 l3 l4
    obtain ⟨m, hm⟩ : ∃ m : Nat, (q % 4).toNat = m := ⟨_, rfl⟩
    have hm3 : m ≤ 3 := by omega
    have hmq : q % 4 = (m : Int) := by omega
    rw [hmq]
    go_loopw [24] (fun i wr => ∃ k : Nat, k ≤ m ∧ i = .int .i64 (k : Int) ∧ Hid (Bx wr tb 59 #[.int .i64 (sunS v k).x, .int .i64 (sunS v k).y, .int .i64 (sunS v k).z]) ∧ Hid (Bx wr rb 59 #[.int .i64 0, .int .i64 0, .int .i64 0]) ∧ Hid (New w wr)) (fun i _ => m - (intOf i).toNat)
    case atStart => exact ⟨0, by omega, rfl, T5, HC5, HN5⟩
    case round =>
      clear T5 HC5 HN5
      obtain ⟨k, hk, rfl, HT, HC, HN⟩ := hrel
      have k0 := HT.out.cell 0
      have k1 := HT.out.cell 1
      have k2 := HT.out.cell 2
      have f0 := HT.out.free 0
      have f1 := HT.out.free 1
      have f2 := HT.out.free 2
      have lb := HT.out.lt
      have r0 := HC.out.cell 0
      have r1 := HC.out.cell 1
      have r2 := HC.out.cell 2
      have e0 := HC.out.free 0
      have e1 := HC.out.free 1
      have e2 := HC.out.free 2
      have lr := HC.out.lt
      simp only [List.getElem?_toArray, List.getElem?_cons_zero, List.getElem?_cons_succ] at k0 k1 k2 r0 r1 r2
      by_cases hlt : k < m
      · have hb := HBD.out k
        have HT2 := Lib.hid (show Bx _ tb 59 #[.int .i64 (sunS v (k + 1)).x, .int .i64 (sunS v (k + 1)).y, .int .i64 (sunS v (k + 1)).z] from (HT.out.set 0 (.int .i64 (sunS v k).y)).set 1 (.int .i64 (-(sunS v k).x)))
        have HC2 := Lib.hid ((HC.out.far (p := ⟨tb, 0, none⟩) hrt (.int .i64 (sunS v k).y)).far (p := ⟨tb, 1, none⟩) hrt (.int .i64 (-(sunS v k).x)))
        have HN2 := Lib.hid ((HN.out.setCell (p := ⟨tb, 0, none⟩) htw (.int .i64 (sunS v k).y)).setCell (p := ⟨tb, 1, none⟩) htw (.int .i64 (-(sunS v k).x)))
        have dl : decide ((k : Int) < (m : Int)) = true := decide_eq_true (by omega)
        go_wp2_with fail
        go_roundw
        case rel => exact ⟨k + 1, by omega, by go_num, HT2, HC2, HN2⟩
        case measure => simp [intOf]; omega
      · obtain rfl : m = k := by omega
        have HX := Lib.hid (((HC.out.set 0 (.int .i64 (sunS v m).x)).set 1 (.int .i64 (sunS v m).y)).set 2 (.int .i64 (sunS v m).z))
        have HN2 := Lib.hid (((HN.out.setCell (p := ⟨rb, 0, none⟩) hge (.int .i64 (sunS v m).x)).setCell (p := ⟨rb, 1, none⟩) hge (.int .i64 (sunS v m).y)).setCell (p := ⟨rb, 2, none⟩) hge (.int .i64 (sunS v m).z))
        go_wp2_with fail
        (try simp only [Exit.inBlock, Exit.then])
        refine bodyPost_ret (results_ct rfl _ _ rb 59 #[.int .i64 (sunS v m).x, .int .i64 (sunS v m).y, .int .i64 (sunS v m).z] (0, 0) _ (.int .i64 0) rfl HX.out Try.underlying59 rfl (by kernel_rfl) rfl) rfl ?_
        exact ⟨HN2.out, .inr ⟨HQ.out, by rw [hm]⟩⟩
  · have bq : (r != 0) = true := by simpa using hr0
    clear B3 C3 N3
    go_wp2_with (first | (go_at_call 95; refine (cWithin_any _ _ _ _).mono ?_; rintro e w' ⟨rfl, rfl⟩) | (go_at_call 81; refine (cUnless_any _ _ _).mono ?_; rintro e w' ⟨rfl, rfl⟩) | (go_at_call 80; refine (cFirst_any _ 2 2 [_, _] _ (by omega) rfl (cells_new _ _ _ _ (by simp) _ rfl)).mono ?_; rintro e w' ⟨rfl, rfl⟩; rw [HV.out]))
    (try simp only [Exit.inBlock, Exit.then])
    refine bodyPost_ret (results_ct rfl _ _ (w.heap.size + 1) 59 #[.int .i64 0, .int .i64 0, .int .i64 0] (0, 0) _ (.int .i64 r) rfl ((((HC3.out.set 0 (.int .i64 0)).set 1 (.int .i64 0)).set 2 (.int .i64 0)).alloc _) Try.underlying59 rfl (by kernel_rfl) rfl) rfl ?_
    exact ⟨(((HN3.out.setCell (p := ⟨w.heap.size + 1, 0, none⟩) hge (.int .i64 0)).setCell (p := ⟨w.heap.size + 1, 1, none⟩) hge (.int .i64 0)).setCell (p := ⟨w.heap.size + 1, 2, none⟩) hge (.int .i64 0)).alloc _, .inl ⟨r, HQ.out, hr0, rfl⟩⟩
end Go.Proofs.Ytaogolnoiffgiaa

namespace Go.Proofs.Ytaogolnoiffgiaa
open Go.RowKit Go.Sky Go.Sky.Ch

theorem eql_vec0 (a b c : Int) (W : World) : (binOp .eql 59 (.agg #[.int .i64 a, .int .i64 b, .int .i64 c]) (.agg #[.int .i64 0, .int .i64 0, .int .i64 0])).run Try.prog W = .ok (.bool (a == 0 && (b == 0 && c == 0))) W := by
  have h := eql_vec_d 9998 a b c 0 0 0
  simp only [binOp]
  simp [Op.equal, Op.maxDepth, h, go_sem]

set_option maxRecDepth 100000 in
set_option maxHeartbeats 4000000 in
theorem refVec_any (v : Ve) (w : World) :
    Calls Try.prog 34 #[.agg #[.int .i64 v.x, .int .i64 v.y, .int .i64 v.z]] w fun e w' => e = .returned (.int .i64 (vecE v)) ∧ New w w' := by
  obtain ⟨x, y, z⟩ := v
  dsimp only
  have N0 := (New.refl w).alloc (.cells #[.int .i64 x, .int .i64 y, .int .i64 z] 59)
  have HV := Lib.hid (show vecE ⟨x, y, z⟩ = firstE [errU (inR x (-1000) 1000 && inR y (-1000) 1000 && inR z (-1000) 1000) 2, errU (!(x == 0 && (y == 0 && z == 0))) 11] from rfl)
  obtain ⟨q1, h1⟩ : ∃ v, inR x (-1000) 1000 = v := ⟨_, rfl⟩
  obtain ⟨q2, h2⟩ : ∃ v, inR y (-1000) 1000 = v := ⟨_, rfl⟩
  obtain ⟨q3, h3⟩ : ∃ v, inR z (-1000) 1000 = v := ⟨_, rfl⟩
  obtain ⟨q4, h4⟩ : ∃ v, (x == 0 && (y == 0 && z == 0)) = v := ⟨_, rfl⟩
  rw [h1, h2, h3, h4] at HV
  have heql : ∀ W, (binOp .eql 59 (.agg #[.int .i64 x, .int .i64 y, .int .i64 z]) (.agg #[.int .i64 0, .int .i64 0, .int .i64 0])).run Try.prog W = .ok (.bool q4) W := fun W => by rw [eql_vec0, h4]
  have H1 := Lib.hid h1
  have H2 := Lib.hid h2
  have H3 := Lib.hid h3
  clear h1 h2 h3 h4
  cases q1 <;> cases q2 <;> cases q3 <;> cases q4
  all_goals
    go_enter Try.func34, Try.ntmps34
    go_wp2_with (go_at_call 19; refine (bWithin_any _ _ _ _).mono ?_; rintro e w' ⟨rfl, rfl⟩; first | rw [H1.out] | rw [H2.out] | rw [H3.out])
    go_ret
    exact ⟨by rw [HV.out]; rfl, N0⟩

set_option maxRecDepth 100000 in
set_option maxHeartbeats 4000000 in
theorem refLit_any (a b : Ve) (t : Int) (w : World) (ha : (-1000 ≤ a.x ∧ a.x ≤ 1000) ∧ (-1000 ≤ a.y ∧ a.y ≤ 1000) ∧ (-1000 ≤ a.z ∧ a.z ≤ 1000)) (hb : (-1000 ≤ b.x ∧ b.x ≤ 1000) ∧ (-1000 ≤ b.y ∧ b.y ≤ 1000) ∧ (-1000 ≤ b.z ∧ b.z ≤ 1000)) (ht : 0 ≤ t ∧ t ≤ 4000000) :
    Calls Try.prog 35 #[.agg #[.int .i64 a.x, .int .i64 a.y, .int .i64 a.z], .agg #[.int .i64 b.x, .int .i64 b.y, .int .i64 b.z], .int .i64 t] w fun e w' => e = .returned (.int .i64 (litS a b t)) ∧ New w w' := by
  have N0 := ((New.refl w).alloc (.cells #[.int .i64 a.x, .int .i64 a.y, .int .i64 a.z] 59)).alloc (.cells #[.int .i64 b.x, .int .i64 b.y, .int .i64 b.z] 59)
  have m1 := mul_bd3 ha.1 hb.1
  have m2 := mul_bd3 ha.2.1 hb.2.1
  have m3 := mul_bd3 ha.2.2 hb.2.2
  have HL := Lib.hid (show litS a b t = if t < a.x * b.x + a.y * b.y + a.z * b.z then 2 else if a.x * b.x + a.y * b.y + a.z * b.z < -t then 0 else 1 from rfl)
  have hp1 : -3000000 ≤ a.x * b.x + a.y * b.y + a.z * b.z ∧ a.x * b.x + a.y * b.y + a.z * b.z ≤ 3000000 := by omega
  clear ha hb
  by_cases hA : t < a.x * b.x + a.y * b.y + a.z * b.z
  · have dA : decide (t < a.x * b.x + a.y * b.y + a.z * b.z) = true := decide_eq_true hA
    have HL2 := Lib.hid (HL.out.trans (if_pos hA))
    clear hA
    go_enter Try.func35, Try.ntmps35
    go_wp2
    go_ret
    exact ⟨by rw [HL2.out]; rfl, N0⟩
  · have dA : decide (t < a.x * b.x + a.y * b.y + a.z * b.z) = false := decide_eq_false hA
    by_cases hB : a.x * b.x + a.y * b.y + a.z * b.z < -t
    · have dB : decide (a.x * b.x + a.y * b.y + a.z * b.z < -t) = true := decide_eq_true hB
      have HL2 := Lib.hid (HL.out.trans ((if_neg hA).trans (if_pos hB)))
      clear hA hB
      go_enter Try.func35, Try.ntmps35
      go_wp2
      go_ret
      exact ⟨by rw [HL2.out]; rfl, N0⟩
    · have dB : decide (a.x * b.x + a.y * b.y + a.z * b.z < -t) = false := decide_eq_false hB
      have HL2 := Lib.hid (HL.out.trans ((if_neg hA).trans (if_neg hB)))
      clear hA hB
      go_enter Try.func35, Try.ntmps35
      go_wp2
      go_ret
      exact ⟨by rw [HL2.out]; rfl, N0⟩
end Go.Proofs.Ytaogolnoiffgiaa

namespace Go.Proofs.Ytaogolnoiffgiaa
open Go.RowKit Go.Sky Go.Sky.Ch

set_option maxRecDepth 100000 in
set_option maxHeartbeats 4000000 in
theorem refSun_any (v : Ve) (q : Int) (w : World) (hv : (-1000 ≤ v.x ∧ v.x ≤ 1000) ∧ (-1000 ≤ v.y ∧ v.y ≤ 1000) ∧ (-1000 ≤ v.z ∧ v.z ≤ 1000)) (hq : 0 ≤ q ∧ q ≤ 1000000000000) :
    Calls Try.prog 37 #[.agg #[.int .i64 v.x, .int .i64 v.y, .int .i64 v.z], .int .i64 q] w fun e w' => e = .returned (.agg #[.int .i64 (sunS v (q % 4).toNat).x, .int .i64 (sunS v (q % 4).toNat).y, .int .i64 (sunS v (q % 4).toNat).z]) ∧ New w w' := by
  have N0 := (((New.refl w).alloc (.cells #[.int .i64 v.x, .int .i64 v.y, .int .i64 v.z] 65)).alloc (.cells #[.int .i64 0, .int .i64 0, .int .i64 0] 59)).alloc (.cells #[.int .i64 v.x, .int .i64 v.y, .int .i64 v.z] 59)
  have b1 := (Bx.mk_at (w.alloc (.cells #[.int .i64 v.x, .int .i64 v.y, .int .i64 v.z] 65)) 59 #[.int .i64 0, .int .i64 0, .int .i64 0] (w.heap.size + 1) (by simp)).alloc (.cells #[.int .i64 v.x, .int .i64 v.y, .int .i64 v.z] 59)
  have b2 := Bx.mk_at ((w.alloc (.cells #[.int .i64 v.x, .int .i64 v.y, .int .i64 v.z] 65)).alloc (.cells #[.int .i64 0, .int .i64 0, .int .i64 0] 59)) 59 #[.int .i64 v.x, .int .i64 v.y, .int .i64 v.z] (w.heap.size + 1 + 1) (by simp)
  have HBD := Lib.hid (sunS_bd hv)
  obtain ⟨m, hm⟩ : ∃ m : Nat, (q % 4).toNat = m := ⟨_, rfl⟩
  have hm3 : m ≤ 3 := by omega
  have hmq : q % 4 = (m : Int) := by omega
  rw [hm]
  have HMQ := Lib.hid hmq
  clear hm hv
  go_enter Try.func37, Try.ntmps37
  go_wp2_with fail
  obtain ⟨W4, hW4⟩ : ∃ W4, ((w.alloc (.cells #[.int .i64 v.x, .int .i64 v.y, .int .i64 v.z] 65)).alloc (.cells #[.int .i64 0, .int .i64 0, .int .i64 0] 59)).alloc (.cells #[.int .i64 v.x, .int .i64 v.y, .int .i64 v.z] 59) = W4 := ⟨_, rfl⟩
  rw [hW4] at N0 b1 b2 ⊢
  obtain ⟨tb, htb⟩ : ∃ b, w.heap.size + 1 + 1 = b := ⟨_, rfl⟩
  obtain ⟨rb, hrb⟩ : ∃ b, w.heap.size + 1 = b := ⟨_, rfl⟩
  rw [htb] at b2 ⊢
  rw [hrb] at b1 ⊢
  have hrt : rb ≠ tb := by omega
  have htw : w.heap.size ≤ tb := by omega
  have hge : w.heap.size ≤ rb := by omega
  have T5 := Lib.hid b2
  have HC5 := Lib.hid b1
  have HN5 := Lib.hid N0
  clear hW4 htb hrb b1 b2 N0 hmq
  go_loopw [6] (fun i wr => ∃ k : Nat, k ≤ m ∧ i = .int .i64 (k : Int) ∧ Hid (Bx wr tb 59 #[.int .i64 (sunS v k).x, .int .i64 (sunS v k).y, .int .i64 (sunS v k).z]) ∧ Hid (Bx wr rb 59 #[.int .i64 0, .int .i64 0, .int .i64 0]) ∧ Hid (New w wr)) (fun i _ => m - (intOf i).toNat)
  case atStart => exact ⟨0, by omega, rfl, T5, HC5, HN5⟩
  case round =>
    clear T5 HC5 HN5
    obtain ⟨k, hk, rfl, HT, HC, HN⟩ := hrel
    have k0 := HT.out.cell 0
    have k1 := HT.out.cell 1
    have k2 := HT.out.cell 2
    have f0 := HT.out.free 0
    have f1 := HT.out.free 1
    have f2 := HT.out.free 2
    have lb := HT.out.lt
    have r0 := HC.out.cell 0
    have r1 := HC.out.cell 1
    have r2 := HC.out.cell 2
    have e0 := HC.out.free 0
    have e1 := HC.out.free 1
    have e2 := HC.out.free 2
    have lr := HC.out.lt
    simp only [List.getElem?_toArray, List.getElem?_cons_zero, List.getElem?_cons_succ] at k0 k1 k2 r0 r1 r2
    by_cases hlt : k < m
    · have hb := HBD.out k
      have HT2 := Lib.hid (show Bx _ tb 59 #[.int .i64 (sunS v (k + 1)).x, .int .i64 (sunS v (k + 1)).y, .int .i64 (sunS v (k + 1)).z] from ((HT.out.set 0 (.int .i64 (sunS v k).y)).set 1 (.int .i64 (-(sunS v k).x))).set 2 (.int .i64 (sunS v k).z))
      have HC2 := Lib.hid (((HC.out.far (p := ⟨tb, 0, none⟩) hrt (.int .i64 (sunS v k).y)).far (p := ⟨tb, 1, none⟩) hrt (.int .i64 (-(sunS v k).x))).far (p := ⟨tb, 2, none⟩) hrt (.int .i64 (sunS v k).z))
      have HN2 := Lib.hid (((HN.out.setCell (p := ⟨tb, 0, none⟩) htw (.int .i64 (sunS v k).y)).setCell (p := ⟨tb, 1, none⟩) htw (.int .i64 (-(sunS v k).x))).setCell (p := ⟨tb, 2, none⟩) htw (.int .i64 (sunS v k).z))
      have dl : decide ((k : Int) < q % 4) = true := decide_eq_true (by rw [HMQ.out]; omega)
      go_wp2_with fail
      go_roundw
      case rel => exact ⟨k + 1, by omega, by go_num, HT2, HC2, HN2⟩
      case measure => simp [intOf]; omega
    · obtain rfl : m = k := by omega
      have HX := Lib.hid (((HC.out.set 0 (.int .i64 (sunS v m).x)).set 1 (.int .i64 (sunS v m).y)).set 2 (.int .i64 (sunS v m).z))
      have HN2 := Lib.hid (((HN.out.setCell (p := ⟨rb, 0, none⟩) hge (.int .i64 (sunS v m).x)).setCell (p := ⟨rb, 1, none⟩) hge (.int .i64 (sunS v m).y)).setCell (p := ⟨rb, 2, none⟩) hge (.int .i64 (sunS v m).z))
      have dl : decide ((m : Int) < q % 4) = false := decide_eq_false (by rw [HMQ.out]; omega)
      go_wp2_with fail
      (try simp only [Exit.inBlock, Exit.then])
      refine bodyPost_ret (results_cell_row rfl _ _ rb 59 #[.int .i64 (sunS v m).x, .int .i64 (sunS v m).y, .int .i64 (sunS v m).z] (0, 0) _ rfl HX.out Try.underlying59 rfl (by kernel_rfl)) rfl ?_
      exact ⟨rfl, HN2.out⟩
end Go.Proofs.Ytaogolnoiffgiaa
