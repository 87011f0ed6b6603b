/- Contracts: the sun at a quarter.
   Contracts: the reference of polygons. (the four cases of Step are printed by wip/gen_k30.py) -/
import Derived.BigQuiet
import Derived.Deep.AppendLies
import Derived.Deep.Draws
import Derived.Deep.Quiet
import Derived.Deep.QuietTactic
import Derived.Laws.BitsAllLaws
import Derived.Laws.Rows
import Derived.Lib.Hide
import Derived.MapKept
import Derived.Maps.Keyed
import Derived.OrdersIn
import Derived.OwnWalkIn
import Derived.RangeFuncCalls
import Derived.Shelf.RegionOpen
import Derived.StillTail
import Derived.TacticsIn
import Derived.Test.YtaogolnoiffgiaaProg
import Derived.WalkKit
import Derived.WalkLawsBesides
import Derived.WalkSpells
import Derived.Test.YtaogolnoiffgiaaC22E
import Derived.Test.YtaogolnoiffgiaaC22H
import Derived.Test.YtaogolnoiffgiaaC22L
import Derived.Test.YtaogolnoiffgiaaC22R
import Derived.Test.YtaogolnoiffgiaaC22S

namespace Go.Proofs.Ytaogolnoiffgiaa
open Go.RowKit Go.Sky Go.Sky.Ch

theorem sunS_bd {v : Ve} (h : (-1000 ≤ v.x ∧ v.x ≤ 1000) ∧ (-1000 ≤ v.y ∧ v.y ≤ 1000) ∧ (-1000 ≤ v.z ∧ v.z ≤ 1000)) : ∀ n, (-1000 ≤ (sunS v n).x ∧ (sunS v n).x ≤ 1000) ∧ (-1000 ≤ (sunS v n).y ∧ (sunS v n).y ≤ 1000) ∧ (-1000 ≤ (sunS v n).z ∧ (sunS v n).z ≤ 1000)
  | 0 => h
  | n + 1 => by
    have := sunS_bd h n
    show (-1000 ≤ (sunS v n).y ∧ (sunS v n).y ≤ 1000) ∧ (-1000 ≤ -(sunS v n).x ∧ -(sunS v n).x ≤ 1000) ∧ (-1000 ≤ (sunS v n).z ∧ (sunS v n).z ≤ 1000)
    omega
set_option maxRecDepth 100000 in
set_option maxHeartbeats 4000000 in
theorem cSunAt_any (v : Ve) (q : Int) (w : World) :
    Calls Try.prog 33 #[.agg #[.int .i64 v.x, .int .i64 v.y, .int .i64 v.z], .int .i64 q] w fun e w' => New w w' ∧
      ((∃ r, sunE v q = r ∧ r ≠ 0 ∧ e = .returned (.tuple #[.agg #[.int .i64 0, .int .i64 0, .int .i64 0], .int .i64 r])) ∨
       (sunE v q = 0 ∧ e = .returned (.tuple #[.agg #[.int .i64 (sunS v (q % 4).toNat).x, .int .i64 (sunS v (q % 4).toNat).y, .int .i64 (sunS v (q % 4).toNat).z], .int .i64 0]))) := by
  have N0 := ((New.refl w).alloc (.cells #[.int .i64 v.x, .int .i64 v.y, .int .i64 v.z] 65)).alloc (.cells #[.int .i64 0, .int .i64 0, .int .i64 0] 59)
  have b0 := (Bx.mk w 65 #[.int .i64 v.x, .int .i64 v.y, .int .i64 v.z]).alloc (.cells #[.int .i64 0, .int .i64 0, .int .i64 0] 59)
  have b1 := Bx.mk_at (w.alloc (.cells #[.int .i64 v.x, .int .i64 v.y, .int .i64 v.z] 65)) 59 #[.int .i64 0, .int .i64 0, .int .i64 0] (w.heap.size + 1) (by simp)
  obtain ⟨W2, hW2⟩ : ∃ W2, (w.alloc (.cells #[.int .i64 v.x, .int .i64 v.y, .int .i64 v.z] 65)).alloc (.cells #[.int .i64 0, .int .i64 0, .int .i64 0] 59) = W2 := ⟨_, rfl⟩
  rw [hW2] at b0 b1 N0
  have c0 : W2.cell? ⟨w.heap.size, 0, none⟩ = some (.int .i64 v.x) := b0.cell 0
  have c1 : W2.cell? ⟨w.heap.size, 1, none⟩ = some (.int .i64 v.y) := b0.cell 1
  have c2 : W2.cell? ⟨w.heap.size, 2, none⟩ = some (.int .i64 v.z) := b0.cell 2
  have l0 := b0.lt
  have l1 := b1.lt
  obtain ⟨r, hr⟩ : ∃ u, sunE v q = u := ⟨_, rfl⟩
  have HV := Lib.hid (show firstE [vecE v, errU (inR q 0 1000000000000) 2] = r from hr)
  have HB0 := Lib.hid b0
  have HB1 := Lib.hid b1
  have HQ := Lib.hid hr
  clear hr b0 b1
  go_enter Try.func33, Try.ntmps33
  go_wp2_with fail
  try rw [hW2]
  clear hW2
  refine (cVectorErr_any v _).mono ?_
  rintro e w3 ⟨rfl, n3⟩
  have B3 := HB0.out.keep n3
  have C3 := HB1.out.keep n3
  have N3 := N0.trans n3
  clear c0 c1 c2 l0 l1 N0 n3
  have l3 := B3.lt
  have l4 := C3.lt
  have g0 := B3.cell 0
  have g1 := B3.cell 1
  have g2 := B3.cell 2
  have k0 := C3.cell 0
  have k1 := C3.cell 1
  have k2 := C3.cell 2
  have f0 := C3.free 0
  have f1 := C3.free 1
  have f2 := C3.free 2
  simp only [List.getElem?_toArray, List.getElem?_cons_zero, List.getElem?_cons_succ] at g0 g1 g2 k0 k1 k2
  have hge : w.heap.size ≤ w.heap.size + 1 := Nat.le_succ _
  have HC3 := Lib.hid C3
  have HB3 := Lib.hid B3
  have HN3 := Lib.hid N3
  by_cases hr0 : r = 0
  · subst hr0
    have hz := firstE_zero HQ.out
    have hve := vecE_zero (hz (vecE v) (by simp))
    have hq := inR_iff.1 (errU_nil (by decide) (hz (errU (inR q 0 1000000000000) 2) (by simp)))
    have HBD := Lib.hid (sunS_bd ⟨hve.1, hve.2.1, hve.2.2.1⟩)
    clear hz hve B3 C3 N3
    go_wp2_with (first | (go_at_call 95; refine (cWithin_any _ _ _ _).mono ?_; rintro e w' ⟨rfl, rfl⟩) | (go_at_call 81; refine (cUnless_any _ _ _).mono ?_; rintro e w' ⟨rfl, rfl⟩) | (go_at_call 80; refine (cFirst_any _ 2 2 [_, _] _ (by omega) rfl (cells_new _ _ _ _ (by simp) _ rfl)).mono ?_; rintro e w' ⟨rfl, rfl⟩; rw [HV.out]))
    obtain ⟨W4, hW4⟩ : ∃ W4, w3.alloc (.cells { toList := Value.int .i64 (vecE v) :: encI (errU (inR q 0 1000000000000) 2) } 30) = W4 := ⟨_, rfl⟩
    have hs4 : W4.heap.size = w3.heap.size + 1 := by rw [← hW4]; simp
    have n4 : New w3 W4 := hW4 ▸ (New.refl w3).alloc _
    rw [hW4]
    have T5 := Lib.hid (Bx.mk_at W4 59 #[.int .i64 v.x, .int .i64 v.y, .int .i64 v.z] (w3.heap.size + 1) hs4.symm)
    have HC5 := Lib.hid ((HC3.out.keep n4).alloc (.cells #[.int .i64 v.x, .int .i64 v.y, .int .i64 v.z] 59))
    have HN5 := Lib.hid ((HN3.out.trans n4).alloc (.cells #[.int .i64 v.x, .int .i64 v.y, .int .i64 v.z] 59))
    obtain ⟨tb, htb⟩ : ∃ b, w3.heap.size + 1 = b := ⟨_, rfl⟩
    obtain ⟨rb, hrb⟩ : ∃ b, w.heap.size + 1 = b := ⟨_, rfl⟩
    have hrt : rb ≠ tb := by omega
    have htw : w.heap.size ≤ tb := by omega
    rw [hrb] at HC5 hge
    rw [htb] at T5
    rw [htb, hrb]
    clear hW4 n4 hs4 HC3 HB3 HN3 g0 g1 g2 k0 k1 k2 f0 f1 f2 l3 l4
    obtain ⟨m, hm⟩ : ∃ m : Nat, (q % 4).toNat = m := ⟨_, rfl⟩
    have hm3 : m ≤ 3 := by omega
    have hmq : q % 4 = (m : Int) := by omega
    rw [hmq]
    go_loopw [24] (fun i wr => ∃ k : Nat, k ≤ m ∧ i = .int .i64 (k : Int) ∧ Hid (Bx wr tb 59 #[.int .i64 (sunS v k).x, .int .i64 (sunS v k).y, .int .i64 (sunS v k).z]) ∧ Hid (Bx wr rb 59 #[.int .i64 0, .int .i64 0, .int .i64 0]) ∧ Hid (New w wr)) (fun i _ => m - (intOf i).toNat)
    case atStart => exact ⟨0, by omega, rfl, T5, HC5, HN5⟩
    case round =>
      clear T5 HC5 HN5
      obtain ⟨k, hk, rfl, HT, HC, HN⟩ := hrel
      have k0 := HT.out.cell 0
      have k1 := HT.out.cell 1
      have k2 := HT.out.cell 2
      have f0 := HT.out.free 0
      have f1 := HT.out.free 1
      have f2 := HT.out.free 2
      have lb := HT.out.lt
      have r0 := HC.out.cell 0
      have r1 := HC.out.cell 1
      have r2 := HC.out.cell 2
      have e0 := HC.out.free 0
      have e1 := HC.out.free 1
      have e2 := HC.out.free 2
      have lr := HC.out.lt
      simp only [List.getElem?_toArray, List.getElem?_cons_zero, List.getElem?_cons_succ] at k0 k1 k2 r0 r1 r2
      by_cases hlt : k < m
      · have hb := HBD.out k
        have HT2 := Lib.hid (show Bx _ tb 59 #[.int .i64 (sunS v (k + 1)).x, .int .i64 (sunS v (k + 1)).y, .int .i64 (sunS v (k + 1)).z] from (HT.out.set 0 (.int .i64 (sunS v k).y)).set 1 (.int .i64 (-(sunS v k).x)))
        have HC2 := Lib.hid ((HC.out.far (p := ⟨tb, 0, none⟩) hrt (.int .i64 (sunS v k).y)).far (p := ⟨tb, 1, none⟩) hrt (.int .i64 (-(sunS v k).x)))
        have HN2 := Lib.hid ((HN.out.setCell (p := ⟨tb, 0, none⟩) htw (.int .i64 (sunS v k).y)).setCell (p := ⟨tb, 1, none⟩) htw (.int .i64 (-(sunS v k).x)))
        have dl : decide ((k : Int) < (m : Int)) = true := decide_eq_true (by omega)
        go_wp2_with fail
        go_roundw
        case rel => exact ⟨k + 1, by omega, by go_num, HT2, HC2, HN2⟩
        case measure => simp [intOf]; omega
      · obtain rfl : m = k := by omega
        have HX := Lib.hid (((HC.out.set 0 (.int .i64 (sunS v m).x)).set 1 (.int .i64 (sunS v m).y)).set 2 (.int .i64 (sunS v m).z))
        have HN2 := Lib.hid (((HN.out.setCell (p := ⟨rb, 0, none⟩) hge (.int .i64 (sunS v m).x)).setCell (p := ⟨rb, 1, none⟩) hge (.int .i64 (sunS v m).y)).setCell (p := ⟨rb, 2, none⟩) hge (.int .i64 (sunS v m).z))
        go_wp2_with fail
        (try simp only [Exit.inBlock, Exit.then])
        refine bodyPost_ret (results_ct rfl _ _ rb 59 #[.int .i64 (sunS v m).x, .int .i64 (sunS v m).y, .int .i64 (sunS v m).z] (0, 0) _ (.int .i64 0) rfl HX.out Try.underlying59 rfl (by kernel_rfl) rfl) rfl ?_
        exact ⟨HN2.out, .inr ⟨HQ.out, by rw [hm]⟩⟩
  · have bq : (r != 0) = true := by simpa using hr0
    clear B3 C3 N3
    go_wp2_with (first | (go_at_call 95; refine (cWithin_any _ _ _ _).mono ?_; rintro e w' ⟨rfl, rfl⟩) | (go_at_call 81; refine (cUnless_any _ _ _).mono ?_; rintro e w' ⟨rfl, rfl⟩) | (go_at_call 80; refine (cFirst_any _ 2 2 [_, _] _ (by omega) rfl (cells_new _ _ _ _ (by simp) _ rfl)).mono ?_; rintro e w' ⟨rfl, rfl⟩; rw [HV.out]))
    (try simp only [Exit.inBlock, Exit.then])
    refine bodyPost_ret (results_ct rfl _ _ (w.heap.size + 1) 59 #[.int .i64 0, .int .i64 0, .int .i64 0] (0, 0) _ (.int .i64 r) rfl ((((HC3.out.set 0 (.int .i64 0)).set 1 (.int .i64 0)).set 2 (.int .i64 0)).alloc _) Try.underlying59 rfl (by kernel_rfl) rfl) rfl ?_
    exact ⟨(((HN3.out.setCell (p := ⟨w.heap.size + 1, 0, none⟩) hge (.int .i64 0)).setCell (p := ⟨w.heap.size + 1, 1, none⟩) hge (.int .i64 0)).setCell (p := ⟨w.heap.size + 1, 2, none⟩) hge (.int .i64 0)).alloc _, .inl ⟨r, HQ.out, hr0, rfl⟩⟩
end Go.Proofs.Ytaogolnoiffgiaa

namespace Go.Proofs.Ytaogolnoiffgiaa
open Go.RowKit Go.Sky Go.Sky.Ch

set_option maxRecDepth 100000 in
set_option maxHeartbeats 4000000 in
theorem refStep_any (x y d : Int) (w : World) (hx : -100000 ≤ x ∧ x ≤ 100000) (hy : -100000 ≤ y ∧ y ≤ 100000) (hd : 0 ≤ d ∧ d ≤ 3) :
    Calls Try.prog 137 #[.agg #[.int .i64 x, .int .i64 y], .int .i64 d] w fun e w' => e = .returned (.agg #[.int .i64 (x + dxS d), .int .i64 (y + dyS d)]) ∧ New w w' := by
  have N0 := ((New.refl w).alloc (.cells #[.int .i64 x, .int .i64 y] 73)).alloc (.cells #[.int .i64 0, .int .i64 0] 73)
  have b0 := (Bx.mk w 73 #[.int .i64 x, .int .i64 y]).alloc (.cells #[.int .i64 0, .int .i64 0] 73)
  have c0 := Bx.mk_at (w.alloc (.cells #[.int .i64 x, .int .i64 y] 73)) 73 #[.int .i64 0, .int .i64 0] (w.heap.size + 1) (by simp)
  obtain ⟨W2, hW2⟩ : ∃ W2, (w.alloc (.cells #[.int .i64 x, .int .i64 y] 73)).alloc (.cells #[.int .i64 0, .int .i64 0] 73) = W2 := ⟨_, rfl⟩
  rw [hW2] at N0 b0 c0
  have k0 : W2.cell? ⟨w.heap.size, 0, none⟩ = some (.int .i64 x) := b0.cell 0
  have k1 : W2.cell? ⟨w.heap.size, 1, none⟩ = some (.int .i64 y) := b0.cell 1
  have r0 : W2.cell? ⟨w.heap.size + 1, 0, none⟩ = some (.int .i64 0) := c0.cell 0
  have r1 : W2.cell? ⟨w.heap.size + 1, 1, none⟩ = some (.int .i64 0) := c0.cell 1
  have f0 := c0.free 0
  have f1 := c0.free 1
  have p0 := b0.free 0
  have p1 := b0.free 1
  have l0 := b0.lt
  have l1 := c0.lt
  have hge : w.heap.size ≤ w.heap.size + 1 := Nat.le_succ _
  have ne1 : w.heap.size ≠ w.heap.size + 1 := by omega
  have ne2 : w.heap.size + 1 ≠ w.heap.size := by omega
  rcases (show d = 0 ∨ d = 1 ∨ d = 2 ∨ d = 3 by omega) with rfl | rfl | rfl | rfl
  · have HX := Lib.hid (((c0.far (p := ⟨w.heap.size, 0, none⟩) ne2 (.int .i64 (x + 1))).set 0 (.int .i64 (x + 1))).set 1 (.int .i64 (y)))
    have HN := Lib.hid (((N0.setCell (p := ⟨w.heap.size, 0, none⟩) (Nat.le_refl _) (.int .i64 (x + 1))).setCell (p := ⟨w.heap.size + 1, 0, none⟩) hge (.int .i64 (x + 1))).setCell (p := ⟨w.heap.size + 1, 1, none⟩) hge (.int .i64 (y)))
    have HE := Lib.hid (show x + dxS 0 = x + 1 ∧ y + dyS 0 = y by constructor <;> simp [dxS, dyS] <;> omega)
    clear c0 b0 N0
    go_enter Try.func137, Try.ntmps137
    go_wp2_with fail
    try rw [hW2]
    go_wp2_with fail
    (try simp only [Exit.inBlock, Exit.then])
    refine bodyPost_ret (results_cell_row rfl _ _ (w.heap.size + 1) 73 #[.int .i64 (x + 1), .int .i64 (y)] (0, 0) _ rfl HX.out Try.underlying73 rfl (by kernel_rfl)) rfl ?_
    exact ⟨by rw [HE.out.1, HE.out.2], HN.out⟩
  · have HX := Lib.hid (((c0.far (p := ⟨w.heap.size, 1, none⟩) ne2 (.int .i64 (y + 1))).set 0 (.int .i64 (x))).set 1 (.int .i64 (y + 1)))
    have HN := Lib.hid (((N0.setCell (p := ⟨w.heap.size, 1, none⟩) (Nat.le_refl _) (.int .i64 (y + 1))).setCell (p := ⟨w.heap.size + 1, 0, none⟩) hge (.int .i64 (x))).setCell (p := ⟨w.heap.size + 1, 1, none⟩) hge (.int .i64 (y + 1)))
    have HE := Lib.hid (show x + dxS 1 = x ∧ y + dyS 1 = y + 1 by constructor <;> simp [dxS, dyS] <;> omega)
    clear c0 b0 N0
    go_enter Try.func137, Try.ntmps137
    go_wp2_with fail
    try rw [hW2]
    go_wp2_with fail
    (try simp only [Exit.inBlock, Exit.then])
    refine bodyPost_ret (results_cell_row rfl _ _ (w.heap.size + 1) 73 #[.int .i64 (x), .int .i64 (y + 1)] (0, 0) _ rfl HX.out Try.underlying73 rfl (by kernel_rfl)) rfl ?_
    exact ⟨by rw [HE.out.1, HE.out.2], HN.out⟩
  · have HX := Lib.hid (((c0.far (p := ⟨w.heap.size, 0, none⟩) ne2 (.int .i64 (x - 1))).set 0 (.int .i64 (x - 1))).set 1 (.int .i64 (y)))
    have HN := Lib.hid (((N0.setCell (p := ⟨w.heap.size, 0, none⟩) (Nat.le_refl _) (.int .i64 (x - 1))).setCell (p := ⟨w.heap.size + 1, 0, none⟩) hge (.int .i64 (x - 1))).setCell (p := ⟨w.heap.size + 1, 1, none⟩) hge (.int .i64 (y)))
    have HE := Lib.hid (show x + dxS 2 = x - 1 ∧ y + dyS 2 = y by constructor <;> simp [dxS, dyS] <;> omega)
    clear c0 b0 N0
    go_enter Try.func137, Try.ntmps137
    go_wp2_with fail
    try rw [hW2]
    go_wp2_with fail
    (try simp only [Exit.inBlock, Exit.then])
    refine bodyPost_ret (results_cell_row rfl _ _ (w.heap.size + 1) 73 #[.int .i64 (x - 1), .int .i64 (y)] (0, 0) _ rfl HX.out Try.underlying73 rfl (by kernel_rfl)) rfl ?_
    exact ⟨by rw [HE.out.1, HE.out.2], HN.out⟩
  · have HX := Lib.hid (((c0.far (p := ⟨w.heap.size, 1, none⟩) ne2 (.int .i64 (y - 1))).set 0 (.int .i64 (x))).set 1 (.int .i64 (y - 1)))
    have HN := Lib.hid (((N0.setCell (p := ⟨w.heap.size, 1, none⟩) (Nat.le_refl _) (.int .i64 (y - 1))).setCell (p := ⟨w.heap.size + 1, 0, none⟩) hge (.int .i64 (x))).setCell (p := ⟨w.heap.size + 1, 1, none⟩) hge (.int .i64 (y - 1)))
    have HE := Lib.hid (show x + dxS 3 = x ∧ y + dyS 3 = y - 1 by constructor <;> simp [dxS, dyS] <;> omega)
    clear c0 b0 N0
    go_enter Try.func137, Try.ntmps137
    go_wp2_with fail
    try rw [hW2]
    go_wp2_with fail
    (try simp only [Exit.inBlock, Exit.then])
    refine bodyPost_ret (results_cell_row rfl _ _ (w.heap.size + 1) 73 #[.int .i64 (x), .int .i64 (y - 1)] (0, 0) _ rfl HX.out Try.underlying73 rfl (by kernel_rfl)) rfl ?_
    exact ⟨by rw [HE.out.1, HE.out.2], HN.out⟩
theorem refStep_is {x y d u v : Int} (h1 : x + dxS d = u) (h2 : y + dyS d = v) (w : World) (hx : -100000 ≤ x ∧ x ≤ 100000) (hy : -100000 ≤ y ∧ y ≤ 100000) (hd : 0 ≤ d ∧ d ≤ 3) :
    Calls Try.prog 137 #[.agg #[.int .i64 x, .int .i64 y], .int .i64 d] w fun e w' => e = .returned (.agg #[.int .i64 u, .int .i64 v]) ∧ New w w' := h1 ▸ h2 ▸ refStep_any x y d w hx hy hd

theorem dir_hit {a b : Pl} {k : Nat} (hk : k < 4) (hno : ∀ j : Nat, j < k → hitD a b (j : Int) = false) (h : hitD a b (k : Int) = true) : dirS a b = (k : Int) := by
  unfold dirS
  rcases (show k = 0 ∨ k = 1 ∨ k = 2 ∨ k = 3 by omega) with rfl | rfl | rfl | rfl
  · have h : hitD a b 0 = true := h
    rw [if_pos h]; rfl
  · have h : hitD a b 1 = true := h
    have h0 : hitD a b 0 = false := hno 0 (by omega)
    rw [if_neg (by rw [h0]; decide), if_pos h]; rfl
  · have h : hitD a b 2 = true := h
    have h0 : hitD a b 0 = false := hno 0 (by omega)
    have h1 : hitD a b 1 = false := hno 1 (by omega)
    rw [if_neg (by rw [h0]; decide), if_neg (by rw [h1]; decide), if_pos h]; rfl
  · have h : hitD a b 3 = true := h
    have h0 : hitD a b 0 = false := hno 0 (by omega)
    have h1 : hitD a b 1 = false := hno 1 (by omega)
    have h2 : hitD a b 2 = false := hno 2 (by omega)
    rw [if_neg (by rw [h0]; decide), if_neg (by rw [h1]; decide), if_neg (by rw [h2]; decide), if_pos h]; rfl
theorem dir_miss {a b : Pl} (hno : ∀ j : Nat, j < 4 → hitD a b (j : Int) = false) : dirS a b = -1 := by
  have h0 : hitD a b 0 = false := hno 0 (by omega)
  have h1 : hitD a b 1 = false := hno 1 (by omega)
  have h2 : hitD a b 2 = false := hno 2 (by omega)
  have h3 : hitD a b 3 = false := hno 3 (by omega)
  unfold dirS
  rw [if_neg (by rw [h0]; decide), if_neg (by rw [h1]; decide), if_neg (by rw [h2]; decide), if_neg (by rw [h3]; decide)]

set_option maxRecDepth 100000 in
set_option maxHeartbeats 4000000 in
theorem refDir_any (a b : Pl) (w : World) (ha : (-100000 ≤ a.1 ∧ a.1 ≤ 100000) ∧ (-100000 ≤ a.2 ∧ a.2 ≤ 100000)) :
    Calls Try.prog 110 #[.agg #[.int .i64 a.1, .int .i64 a.2], .agg #[.int .i64 b.1, .int .i64 b.2]] w fun e w' => e = .returned (.int .i64 (dirS a b)) ∧ New w w' := by
  have heq := eql_pl
  have hgu := guard_pl
  obtain ⟨g0, hg0⟩ : ∃ g, decide (a.1 < b.1) = g := ⟨_, rfl⟩
  obtain ⟨g1, hg1⟩ : ∃ g, decide (a.2 < b.2) = g := ⟨_, rfl⟩
  obtain ⟨g2, hg2⟩ : ∃ g, decide (b.1 < a.1) = g := ⟨_, rfl⟩
  obtain ⟨g3, hg3⟩ : ∃ g, decide (b.2 < a.2) = g := ⟨_, rfl⟩
  have N0 := (((New.refl w).alloc (.cells #[.int .i64 a.1, .int .i64 a.2] 73)).alloc (.cells #[.int .i64 b.1, .int .i64 b.2] 73)).alloc (.cells #[.bool g0, .bool g1, .bool g2, .bool g3] 212)
  have bA := ((Bx.mk w 73 #[.int .i64 a.1, .int .i64 a.2]).alloc (.cells #[.int .i64 b.1, .int .i64 b.2] 73)).alloc (.cells #[.bool g0, .bool g1, .bool g2, .bool g3] 212)
  have bB := (Bx.mk_at (w.alloc (.cells #[.int .i64 a.1, .int .i64 a.2] 73)) 73 #[.int .i64 b.1, .int .i64 b.2] (w.heap.size + 1) (by simp)).alloc (.cells #[.bool g0, .bool g1, .bool g2, .bool g3] 212)
  have bG := Bx.mk_at ((w.alloc (.cells #[.int .i64 a.1, .int .i64 a.2] 73)).alloc (.cells #[.int .i64 b.1, .int .i64 b.2] 73)) 212 #[.bool g0, .bool g1, .bool g2, .bool g3] (w.heap.size + 1 + 1) (by simp)
  obtain ⟨W2, hW2⟩ : ∃ W2, ((w.alloc (.cells #[.int .i64 a.1, .int .i64 a.2] 73)).alloc (.cells #[.int .i64 b.1, .int .i64 b.2] 73)).alloc (.cells #[.bool g0, .bool g1, .bool g2, .bool g3] 212) = W2 := ⟨_, rfl⟩
  rw [hW2] at N0 bA bB bG
  have HG : Hid (∀ k : Nat, k < 4 → ∃ g, (#[Value.bool g0, .bool g1, .bool g2, .bool g3] : Array Value)[k]? = some (.bool g) ∧ (g = false → hitD a b (k : Int) = false)) := Lib.hid (by
    intro k hk
    rcases (show k = 0 ∨ k = 1 ∨ k = 2 ∨ k = 3 by omega) with rfl | rfl | rfl | rfl
    · exact ⟨g0, rfl, fun h => by rw [← hg0] at h; have := of_decide_eq_false h; rw [Bool.eq_false_iff]; intro hh; have := (hit_iff.1 hh).1; simp [dxS] at this; omega⟩
    · exact ⟨g1, rfl, fun h => by rw [← hg1] at h; have := of_decide_eq_false h; rw [Bool.eq_false_iff]; intro hh; have := (hit_iff.1 hh).2; simp [dyS] at this; omega⟩
    · exact ⟨g2, rfl, fun h => by rw [← hg2] at h; have := of_decide_eq_false h; rw [Bool.eq_false_iff]; intro hh; have := (hit_iff.1 hh).1; simp [dxS] at this; omega⟩
    · exact ⟨g3, rfl, fun h => by rw [← hg3] at h; have := of_decide_eq_false h; rw [Bool.eq_false_iff]; intro hh; have := (hit_iff.1 hh).2; simp [dyS] at this; omega⟩)
  go_enter Try.func110, Try.ntmps110
  go_wp2_with fail
  try rw [hg0, hg1, hg2, hg3]
  try rw [hW2]
  clear hg0 hg1 hg2 hg3 hW2
  obtain ⟨sb, hsb⟩ : ∃ s, w.heap.size = s := ⟨_, rfl⟩
  rw [hsb] at bA bB bG
  try rw [hsb]
  clear hsb
  go_loopw [6] (fun i wr => ∃ k : Nat, k ≤ 4 ∧ i = .int .i64 (k : Int) ∧ Hid (∀ j : Nat, j < k → hitD a b (j : Int) = false) ∧ New W2 wr) (fun i _ => 4 - (intOf i).toNat)
  case atStart => exact ⟨0, by omega, rfl, fun j hj => absurd hj (by omega), New.refl _⟩
  case round =>
    obtain ⟨k, hk, rfl, HF, hN⟩ := hrel
    by_cases hlt : k < 4
    · have vA := bA.keep hN
      have vB := bB.keep hN
      have vG := bG.keep hN
      have a0 : wr.cell? ⟨sb, 0, none⟩ = some (.int .i64 a.1) := vA.cell 0
      have a1 : wr.cell? ⟨sb, 1, none⟩ = some (.int .i64 a.2) := vA.cell 1
      have c0 : wr.cell? ⟨sb + 1, 0, none⟩ = some (.int .i64 b.1) := vB.cell 0
      have c1 : wr.cell? ⟨sb + 1, 1, none⟩ = some (.int .i64 b.2) := vB.cell 1
      have lA := vA.lt
      have lB := vB.lt
      have lG := vG.lt
      obtain ⟨g, hg, hgf⟩ := HG.out k hlt
      have dg : wr.cell? ⟨sb + 1 + 1, k, none⟩ = some (.bool g) := by rw [vG.cell]; exact hg
      have HGF := Lib.hid hgf
      have i0 : (0 : Int) ≤ (k : Int) := by omega
      have i1 : (k : Int) < 4 := by omega
      have i2 : (k : Int) ≤ 3 := by omega
      obtain ⟨u, hu⟩ : ∃ u, a.1 + dxS (k : Int) = u := ⟨_, rfl⟩
      obtain ⟨v, hv⟩ : ∃ v, a.2 + dyS (k : Int) = v := ⟨_, rfl⟩
      obtain ⟨t, ht⟩ : ∃ t, (u == b.1 && v == b.2) = t := ⟨_, rfl⟩
      have HT := Lib.hid (show hitD a b (k : Int) = t by unfold hitD; rw [hu, hv]; exact ht)
      have HU := Lib.hid hu
      have HVV := Lib.hid hv
      have HA := Lib.hid ha
      clear hg hgf vA vB vG hu hv ha
      cases g
      · have HT2 := Lib.hid (HGF.out rfl)
        clear HT ht
        go_wp2_with fail
        (refine wp_region_new (by kernel_rfl) (by kernel_rfl) ?_; (repeat (go_big_quiet_step ((fail)))); refine wpQuiet_nil ?_)
        intro w2 n2
        go_wp2_with fail
        go_roundw
        case rel => exact ⟨k + 1, by omega, by go_num, fun j hj => by
          rcases Nat.lt_or_ge j k with h | h
          · exact HF.out j h
          · obtain rfl : j = k := by omega
            exact HT2.out, hN.trans n2⟩
        case measure => simp [intOf]; omega
      · cases t
        all_goals
          go_wp2_with fail
          (refine wp_region_new (by kernel_rfl) (by kernel_rfl) ?_; (repeat (go_big_quiet_step (((go_at_call 137; exact quiet_new (refStep_is HU.out HVV.out _ HA.out.1 HA.out.2 ⟨i0, i2⟩)))))); refine wpQuiet_nil ?_)
          intro w2 n2
        · go_wp2_with fail
          go_roundw
          case rel => exact ⟨k + 1, by omega, by go_num, fun j hj => by
            rcases Nat.lt_or_ge j k with h | h
            · exact HF.out j h
            · obtain rfl : j = k := by omega
              exact HT.out, hN.trans n2⟩
          case measure => simp [intOf]; omega
        · have HD := Lib.hid (dir_hit hlt HF.out HT.out)
          go_wp2_with fail
          go_ret
          exact ⟨by rw [HD.out]; rfl, N0.trans (hN.trans n2)⟩
    · obtain rfl : k = 4 := by omega
      have HD := Lib.hid (dir_miss HF.out)
      go_wp2_with fail
      go_ret
      exact ⟨by rw [HD.out]; rfl, N0.trans hN⟩
theorem refDir_is {a b : Pl} {v : Int} (h : dirS a b = v) (w : World) (ha : (-100000 ≤ a.1 ∧ a.1 ≤ 100000) ∧ (-100000 ≤ a.2 ∧ a.2 ≤ 100000)) :
    Calls Try.prog 110 #[.agg #[.int .i64 a.1, .int .i64 a.2], .agg #[.int .i64 b.1, .int .i64 b.2]] w fun e w' => e = .returned (.int .i64 v) ∧ New w w' := h ▸ refDir_any a b w ha
end Go.Proofs.Ytaogolnoiffgiaa
