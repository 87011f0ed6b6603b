/- Contracts: the sides of a region in the reference. (printed by wip/gen_k36.py)
   Contracts: the side ahead in the reference. -/
import Derived.BigQuiet
import Derived.Deep.AppendLies
import Derived.Deep.Draws
import Derived.Deep.Quiet
import Derived.Deep.QuietTactic
import Derived.DeepKeys4
import Derived.Laws.BitsAllLaws
import Derived.Laws.Rows
import Derived.Lib.Hide
import Derived.MapKept
import Derived.Maps.Keyed
import Derived.OrdersIn
import Derived.OwnWalkIn
import Derived.RangeFuncCalls
import Derived.Shelf.RegionOpen
import Derived.Shelf.SlSortCmp.QuietGrown
import Derived.StillTail
import Derived.TacticsIn
import Derived.Test.YtaogolnoiffgiaaProg
import Derived.WalkArith
import Derived.WalkKit
import Derived.WalkLawsBesides
import Derived.WalkSpells
import Derived.Test.YtaogolnoiffgiaaC21I
import Derived.Test.YtaogolnoiffgiaaC21N
import Derived.Test.YtaogolnoiffgiaaC21W
import Derived.Test.YtaogolnoiffgiaaC21Y

namespace Go.Proofs.Ytaogolnoiffgiaa
open Go.RowKit Go.Sky Go.Sky.Ch

/-- A region's numbers are 0 and 1. -/
def Bin (rows : List (List Int)) : Prop := ∀ r ∈ rows, ∀ v ∈ r, v = 0 ∨ v = 1
def insN (b : Bool) : Int := if b = true then 1 else 0
theorem bin_reg (rows : List (List Int)) (level : Int) : Bin (regS rows level) := by
  intro r hr v hv
  unfold regS at hr
  obtain ⟨a, _, rfl⟩ := List.mem_map.1 hr
  unfold regR at hv
  obtain ⟨b, _, rfl⟩ := List.mem_map.1 hv
  split <;> simp

set_option maxRecDepth 100000 in
set_option maxHeartbeats 4000000 in
theorem refInside_any (rows : List (List Int)) (x y : Int) (A : Option Addr) (n cap : Nat) (w : World) (hrc : Rect rows) (hbin : Bin rows) (hr : RowsL w 1 encI A n rows) (hx : -1000 ≤ x ∧ x ≤ 1000) (hy : -1000 ≤ y ∧ y ≤ 1000) :
    Calls Try.prog 136 #[.slice A n cap, .int .i64 x, .int .i64 y] w fun e w' => e = .returned (.int .i64 (insN (isR rows x y))) ∧ w = w' := by
  have HL := Lib.hid hr.len
  have hn1 : 1 ≤ n ∧ n ≤ 8 := by rw [← HL.out]; exact hrc.h
  have hw1 := hrc.w
  obtain ⟨m, hm⟩ : ∃ m, len0 rows = m := ⟨_, rfl⟩
  have HV := Lib.hid (show isR rows x y = ((inR y 0 ((n : Int) - 1) && inR x 0 ((m : Int) - 1)) && (atR rows x.toNat y.toNat == 1)) by unfold isR; rw [HL.out, hm])
  rw [hm] at hw1
  have HRC := Lib.hid (fun (i : Nat) (r : List Int) (h : rows[i]? = some r) => (hrc.row i r h).trans hm)
  have HR := Lib.hid hr
  have HBI := Lib.hid hbin
  clear hr hrc hm hbin
  obtain ⟨q1, h1⟩ : ∃ v, inR y 0 ((n : Int) - 1) = v := ⟨_, rfl⟩
  obtain ⟨q2, h2⟩ : ∃ v, inR x 0 ((m : Int) - 1) = v := ⟨_, rfl⟩
  rw [h1, h2] at HV
  have H1 := Lib.hid h1
  have H2 := Lib.hid h2
  cases q1
  · clear h1 h2
    go_enter Try.func136, Try.ntmps136
    go_wp2_with (go_at_call 19; refine (bWithin_any _ _ _ _).mono ?_; rintro e w' ⟨rfl, rfl⟩; rw [H1.out])
    go_ret
    exact ⟨by rw [HV.out]; rfl, rfl⟩
  · have h1' := inR_iff.1 h1
    obtain ⟨yn, rfl⟩ : ∃ k : Nat, y = (k : Int) := ⟨y.toNat, by omega⟩
    obtain ⟨b', o', r', xs', rfl, hbb', hx', hc', hrow'⟩ := HR.out.at_ (show yn < n by omega)
    obtain ⟨RA', rn', rc'⟩ := r'
    have hrl : rn' = m := by rw [← HRC.out yn xs' hx']; exact hrow'.len.symm
    subst hrl
    dsimp only at hc'
    have j0 : (0 : Int) ≤ (yn : Int) := by omega
    have j1 : (yn : Int) < (n : Int) := by omega
    cases q2
    · clear h1 h2 h1' hrow' hx'
      go_enter Try.func136, Try.ntmps136
      go_wp2_with (go_at_call 19; refine (bWithin_any _ _ _ _).mono ?_; rintro e w' ⟨rfl, rfl⟩; first | rw [H1.out] | rw [H2.out])
      go_ret
      exact ⟨by rw [HV.out]; rfl, rfl⟩
    · have h2' := inR_iff.1 h2
      obtain ⟨xn, rfl⟩ : ∃ k : Nat, x = (k : Int) := ⟨x.toNat, by omega⟩
      obtain ⟨b2, o2, v, hA2, hb2, hv, hcv⟩ := hrow'.2.at_ (show xn < rn' by omega)
      have g0 := hcv 0 _ rfl
      simp only [Nat.add_zero, Nat.mul_one] at g0
      have HAT := Lib.hid (show atR rows ((xn : Nat) : Int).toNat ((yn : Nat) : Int).toNat = v by
        unfold atR
        rw [show ((yn : Nat) : Int).toNat = yn by omega, show ((xn : Nat) : Int).toNat = xn by omega, hx']
        show xs'.getD xn 0 = v
        rw [List.getD_eq_getElem?_getD, hv]; rfl)
      have HB2 := Lib.hid (HBI.out xs' (List.mem_of_getElem? hx') v (List.mem_of_getElem? hv))
      dsimp only at hA2
      subst hA2
      have j2 : (0 : Int) ≤ (xn : Int) := by omega
      have j3 : (xn : Int) < (rn' : Int) := by omega
      rw [HAT.out] at HV
      clear h1 h2 h1' h2' hx' hrow' hv hcv
      go_enter Try.func136, Try.ntmps136
      go_wp2_with (go_at_call 19; refine (bWithin_any _ _ _ _).mono ?_; rintro e w' ⟨rfl, rfl⟩; first | rw [H1.out] | rw [H2.out])
      go_ret
      exact ⟨by rw [HV.out]; rcases HB2.out with rfl | rfl <;> rfl, rfl⟩
theorem refInside_is {rows : List (List Int)} {x y : Int} {v : Bool} {k : Int} (h : isR rows x y = v) (hk : insN v = k) (A : Option Addr) (n cap : Nat) (w : World) (hrc : Rect rows) (hbin : Bin rows) (hr : RowsL w 1 encI A n rows) (hx : -1000 ≤ x ∧ x ≤ 1000) (hy : -1000 ≤ y ∧ y ≤ 1000) :
    Calls Try.prog 136 #[.slice A n cap, .int .i64 x, .int .i64 y] w fun e w' => e = .returned (.int .i64 k) ∧ w = w' := hk ▸ h ▸ refInside_any rows x y A n cap w hrc hbin hr hx hy

set_option maxRecDepth 100000 in
set_option maxHeartbeats 4000000 in
theorem refIsSide_any (rows : List (List Int)) (x y d : Int) (A : Option Addr) (n cap : Nat) (w : World) (hrc : Rect rows) (hbin : Bin rows) (hr : RowsL w 1 encI A n rows) (hx : -100 ≤ x ∧ x ≤ 100) (hy : -100 ≤ y ∧ y ≤ 100) (hd : 0 ≤ d ∧ d ≤ 3) :
    Calls Try.prog 91 #[.slice A n cap, .agg #[.int .i64 x, .int .i64 y, .int .i64 d]] w fun e w' => e = .returned (.bool (sideB (isR rows) ⟨x, y, d⟩)) ∧ New w w' := by
  have HR := Lib.hid hr
  clear hr
  have N0 := (New.refl w).alloc (.cells #[.int .i64 x, .int .i64 y, .int .i64 d] 158)
  have c0 := Bx.mk w 158 #[.int .i64 x, .int .i64 y, .int .i64 d]
  obtain ⟨W2, hW2⟩ : ∃ W2, w.alloc (.cells #[.int .i64 x, .int .i64 y, .int .i64 d] 158) = W2 := ⟨_, rfl⟩
  rw [hW2] at N0 c0
  have k0 : W2.cell? ⟨w.heap.size, 0, none⟩ = some (.int .i64 x) := c0.cell 0
  have k1 : W2.cell? ⟨w.heap.size, 1, none⟩ = some (.int .i64 y) := c0.cell 1
  have l0 := c0.lt
  rcases (show d = 0 ∨ d = 1 ∨ d = 2 ∨ d = 3 by omega) with rfl | rfl | rfl | rfl
  · obtain ⟨a, ha⟩ : ∃ a, isR rows (x) (y) = a := ⟨_, rfl⟩
    obtain ⟨b, hb⟩ : ∃ b, isR rows (x) (y - 1) = b := ⟨_, rfl⟩
    have HV := Lib.hid (show sideB (isR rows) ⟨x, y, 0⟩ = (a && !b) by rw [← ha, ← hb]; rfl)
    have HA := Lib.hid ha
    have HB := Lib.hid hb
    clear ha hb
    cases a
    · go_enter Try.func91, Try.ntmps91
      go_wp2_with fail
      try rw [hW2]
      clear hW2
      (refine wp_region_new (by kernel_rfl) (by kernel_rfl) ?_; (repeat (go_big_quiet_step ((fail)))); refine wpQuiet_nil ?_)
      intro w3 n3
      have c3 := c0.keep n3
      have d3 : w3.cell? ⟨w.heap.size, 2, none⟩ = some (.int .i64 0) := c3.cell 2
      have l3 := c3.lt
      go_wp2_with fail
      refine (refInside_is HA.out rfl A n cap _ hrc hbin (HR.out.keep (N0.trans n3)) (by omega) (by omega)).mono ?_
      rintro e w' ⟨rfl, rfl⟩
      go_wp2_with fail
      go_ret
      exact ⟨by rw [HV.out]; rfl, N0.trans n3⟩
    · cases b
      all_goals
        go_enter Try.func91, Try.ntmps91
        go_wp2_with fail
        try rw [hW2]
        clear hW2
        (refine wp_region_new (by kernel_rfl) (by kernel_rfl) ?_; (repeat (go_big_quiet_step ((fail)))); refine wpQuiet_nil ?_)
        intro w3 n3
        have c3 := c0.keep n3
        have d3 : w3.cell? ⟨w.heap.size, 2, none⟩ = some (.int .i64 0) := c3.cell 2
        have l3 := c3.lt
        go_wp2_with fail
        refine (refInside_is HA.out rfl A n cap _ hrc hbin (HR.out.keep (N0.trans n3)) (by omega) (by omega)).mono ?_
        rintro e w' ⟨rfl, rfl⟩
        go_wp2_with fail
        refine (refInside_is HB.out rfl A n cap _ hrc hbin (HR.out.keep (N0.trans n3)) (by omega) (by omega)).mono ?_
        rintro e w' ⟨rfl, rfl⟩
        go_wp2_with fail
        go_ret
        exact ⟨by rw [HV.out]; rfl, N0.trans n3⟩
  · obtain ⟨a, ha⟩ : ∃ a, isR rows (x - 1) (y) = a := ⟨_, rfl⟩
    obtain ⟨b, hb⟩ : ∃ b, isR rows (x) (y) = b := ⟨_, rfl⟩
    have HV := Lib.hid (show sideB (isR rows) ⟨x, y, 1⟩ = (a && !b) by rw [← ha, ← hb]; rfl)
    have HA := Lib.hid ha
    have HB := Lib.hid hb
    clear ha hb
    cases a
    · go_enter Try.func91, Try.ntmps91
      go_wp2_with fail
      try rw [hW2]
      clear hW2
      (refine wp_region_new (by kernel_rfl) (by kernel_rfl) ?_; (repeat (go_big_quiet_step ((fail)))); refine wpQuiet_nil ?_)
      intro w3 n3
      have c3 := c0.keep n3
      have d3 : w3.cell? ⟨w.heap.size, 2, none⟩ = some (.int .i64 1) := c3.cell 2
      have l3 := c3.lt
      go_wp2_with fail
      refine (refInside_is HA.out rfl A n cap _ hrc hbin (HR.out.keep (N0.trans n3)) (by omega) (by omega)).mono ?_
      rintro e w' ⟨rfl, rfl⟩
      go_wp2_with fail
      go_ret
      exact ⟨by rw [HV.out]; rfl, N0.trans n3⟩
    · cases b
      all_goals
        go_enter Try.func91, Try.ntmps91
        go_wp2_with fail
        try rw [hW2]
        clear hW2
        (refine wp_region_new (by kernel_rfl) (by kernel_rfl) ?_; (repeat (go_big_quiet_step ((fail)))); refine wpQuiet_nil ?_)
        intro w3 n3
        have c3 := c0.keep n3
        have d3 : w3.cell? ⟨w.heap.size, 2, none⟩ = some (.int .i64 1) := c3.cell 2
        have l3 := c3.lt
        go_wp2_with fail
        refine (refInside_is HA.out rfl A n cap _ hrc hbin (HR.out.keep (N0.trans n3)) (by omega) (by omega)).mono ?_
        rintro e w' ⟨rfl, rfl⟩
        go_wp2_with fail
        refine (refInside_is HB.out rfl A n cap _ hrc hbin (HR.out.keep (N0.trans n3)) (by omega) (by omega)).mono ?_
        rintro e w' ⟨rfl, rfl⟩
        go_wp2_with fail
        go_ret
        exact ⟨by rw [HV.out]; rfl, N0.trans n3⟩
  · obtain ⟨a, ha⟩ : ∃ a, isR rows (x - 1) (y - 1) = a := ⟨_, rfl⟩
    obtain ⟨b, hb⟩ : ∃ b, isR rows (x - 1) (y) = b := ⟨_, rfl⟩
    have HV := Lib.hid (show sideB (isR rows) ⟨x, y, 2⟩ = (a && !b) by rw [← ha, ← hb]; rfl)
    have HA := Lib.hid ha
    have HB := Lib.hid hb
    clear ha hb
    cases a
    · go_enter Try.func91, Try.ntmps91
      go_wp2_with fail
      try rw [hW2]
      clear hW2
      (refine wp_region_new (by kernel_rfl) (by kernel_rfl) ?_; (repeat (go_big_quiet_step ((fail)))); refine wpQuiet_nil ?_)
      intro w3 n3
      have c3 := c0.keep n3
      have d3 : w3.cell? ⟨w.heap.size, 2, none⟩ = some (.int .i64 2) := c3.cell 2
      have l3 := c3.lt
      go_wp2_with fail
      refine (refInside_is HA.out rfl A n cap _ hrc hbin (HR.out.keep (N0.trans n3)) (by omega) (by omega)).mono ?_
      rintro e w' ⟨rfl, rfl⟩
      go_wp2_with fail
      go_ret
      exact ⟨by rw [HV.out]; rfl, N0.trans n3⟩
    · cases b
      all_goals
        go_enter Try.func91, Try.ntmps91
        go_wp2_with fail
        try rw [hW2]
        clear hW2
        (refine wp_region_new (by kernel_rfl) (by kernel_rfl) ?_; (repeat (go_big_quiet_step ((fail)))); refine wpQuiet_nil ?_)
        intro w3 n3
        have c3 := c0.keep n3
        have d3 : w3.cell? ⟨w.heap.size, 2, none⟩ = some (.int .i64 2) := c3.cell 2
        have l3 := c3.lt
        go_wp2_with fail
        refine (refInside_is HA.out rfl A n cap _ hrc hbin (HR.out.keep (N0.trans n3)) (by omega) (by omega)).mono ?_
        rintro e w' ⟨rfl, rfl⟩
        go_wp2_with fail
        refine (refInside_is HB.out rfl A n cap _ hrc hbin (HR.out.keep (N0.trans n3)) (by omega) (by omega)).mono ?_
        rintro e w' ⟨rfl, rfl⟩
        go_wp2_with fail
        go_ret
        exact ⟨by rw [HV.out]; rfl, N0.trans n3⟩
  · obtain ⟨a, ha⟩ : ∃ a, isR rows (x) (y - 1) = a := ⟨_, rfl⟩
    obtain ⟨b, hb⟩ : ∃ b, isR rows (x - 1) (y - 1) = b := ⟨_, rfl⟩
    have HV := Lib.hid (show sideB (isR rows) ⟨x, y, 3⟩ = (a && !b) by rw [← ha, ← hb]; rfl)
    have HA := Lib.hid ha
    have HB := Lib.hid hb
    clear ha hb
    cases a
    · go_enter Try.func91, Try.ntmps91
      go_wp2_with fail
      try rw [hW2]
      clear hW2
      (refine wp_region_new (by kernel_rfl) (by kernel_rfl) ?_; (repeat (go_big_quiet_step ((fail)))); refine wpQuiet_nil ?_)
      intro w3 n3
      have c3 := c0.keep n3
      have d3 : w3.cell? ⟨w.heap.size, 2, none⟩ = some (.int .i64 3) := c3.cell 2
      have l3 := c3.lt
      go_wp2_with fail
      refine (refInside_is HA.out rfl A n cap _ hrc hbin (HR.out.keep (N0.trans n3)) (by omega) (by omega)).mono ?_
      rintro e w' ⟨rfl, rfl⟩
      go_wp2_with fail
      go_ret
      exact ⟨by rw [HV.out]; rfl, N0.trans n3⟩
    · cases b
      all_goals
        go_enter Try.func91, Try.ntmps91
        go_wp2_with fail
        try rw [hW2]
        clear hW2
        (refine wp_region_new (by kernel_rfl) (by kernel_rfl) ?_; (repeat (go_big_quiet_step ((fail)))); refine wpQuiet_nil ?_)
        intro w3 n3
        have c3 := c0.keep n3
        have d3 : w3.cell? ⟨w.heap.size, 2, none⟩ = some (.int .i64 3) := c3.cell 2
        have l3 := c3.lt
        go_wp2_with fail
        refine (refInside_is HA.out rfl A n cap _ hrc hbin (HR.out.keep (N0.trans n3)) (by omega) (by omega)).mono ?_
        rintro e w' ⟨rfl, rfl⟩
        go_wp2_with fail
        refine (refInside_is HB.out rfl A n cap _ hrc hbin (HR.out.keep (N0.trans n3)) (by omega) (by omega)).mono ?_
        rintro e w' ⟨rfl, rfl⟩
        go_wp2_with fail
        go_ret
        exact ⟨by rw [HV.out]; rfl, N0.trans n3⟩
theorem refIsSide_is {rows : List (List Int)} {x y d : Int} {v : Bool} (h : sideB (isR rows) ⟨x, y, d⟩ = v) (A : Option Addr) (n cap : Nat) (w : World) (hrc : Rect rows) (hbin : Bin rows) (hr : RowsL w 1 encI A n rows) (hx : -100 ≤ x ∧ x ≤ 100) (hy : -100 ≤ y ∧ y ≤ 100) (hd : 0 ≤ d ∧ d ≤ 3) :
    Calls Try.prog 91 #[.slice A n cap, .agg #[.int .i64 x, .int .i64 y, .int .i64 d]] w fun e w' => e = .returned (.bool v) ∧ New w w' := h ▸ refIsSide_any rows x y d A n cap w hrc hbin hr hx hy hd

theorem eql_sd_d (n : Nat) (x y d u v e : Int) (W : World) : (Op.equalIn (n + 3) 158 (.agg #[.int .i64 x, .int .i64 y, .int .i64 d]) (.agg #[.int .i64 u, .int .i64 v, .int .i64 e])).run Try.prog W = .ok ((x == u && y == v) && d == e) W := by
  have u1 := Try.underlying158
  have u2 := Try.underlying73
  have z2 := Try.sizeOf73
  have a2 := Try.isAgg73
  have u3 := Try.underlying3
  have z3 := Try.sizeOf3
  have a3 := Try.isAgg3
  have h := eql_pl_d (n + 0) x y u v
  rw [Op.equalIn]
  by_cases h1 : (x == u && y == v) = true
  · rw [h1] at h ⊢
    by_cases h2 : d = e
    · subst h2
      simp [run_underlying u1, part, go_sem, a2, z2, a3, u3, z3, h]
    · have e2 : (d == e) = false := by simpa using h2
      simp [run_underlying u1, part, go_sem, a2, z2, a3, u3, z3, h, e2]
  · have h1' : (x == u && y == v) = false := by simpa using h1
    rw [h1'] at h ⊢
    simp [run_underlying u1, part, go_sem, a2, z2, a3, u3, z3, h]
theorem eql_sdB (x y d u v e : Int) (W : World) : (binOp .eql 158 (.agg #[.int .i64 x, .int .i64 y, .int .i64 d]) (.agg #[.int .i64 u, .int .i64 v, .int .i64 e])).run Try.prog W = .ok (.bool ((x == u && y == v) && d == e)) W := by
  have h := eql_sd_d 9997 x y d u v e
  simp only [binOp]
  simp [Op.equal, Op.maxDepth, h, go_sem]
theorem sd_eq {a b : Sd} : ((a.x == b.x && a.y == b.y) && a.d == b.d) = decide (a = b) := by
  obtain ⟨x, y, d⟩ := a
  obtain ⟨u, v, e⟩ := b
  rw [Bool.eq_iff_iff]
  simp [and_assoc]

set_option maxRecDepth 100000 in
set_option maxHeartbeats 2000000 in
theorem refHasSide_any (s : Sd) (A : Option Addr) (n cap : Nat) (l : List Sd) (w : World) (hn : n ≤ 1000000) (hr : Rd w 3 encSd A n l) :
    Calls Try.prog 92 #[.slice A n cap, .agg #[.int .i64 s.x, .int .i64 s.y, .int .i64 s.d]] w fun e w' => e = .returned (.bool (decide (s ∈ l))) ∧ New w w' := by
  have HL := Lib.hid hr.len
  have HR := Lib.hid hr; clear hr
  have N0 := (New.refl w).alloc (.cells #[.int .i64 s.x, .int .i64 s.y, .int .i64 s.d] 158)
  have c0 := Bx.mk w 158 #[.int .i64 s.x, .int .i64 s.y, .int .i64 s.d]
  obtain ⟨W2, hW2⟩ : ∃ W2, w.alloc (.cells #[.int .i64 s.x, .int .i64 s.y, .int .i64 s.d] 158) = W2 := ⟨_, rfl⟩
  rw [hW2] at N0 c0
  go_enter Try.func92, Try.ntmps92
  go_wp2_with fail
  try rw [hW2]
  clear hW2
  obtain ⟨sb, hsb⟩ : ∃ s, w.heap.size = s := ⟨_, rfl⟩
  rw [hsb] at c0
  try rw [hsb]
  clear hsb
  go_loopw [5] (fun i wr => ∃ k : Nat, k ≤ n ∧ i = .int .i64 (k : Int) ∧ Hid (∀ j x, j < k → l[j]? = some x → x ≠ s) ∧ New W2 wr) (fun i _ => n - (intOf i).toNat)
  case atStart => exact ⟨0, by omega, rfl, fun j x hj => absurd hj (by omega), New.refl _⟩
  case round =>
    obtain ⟨k, hk, rfl, HF, hN⟩ := hrel
    by_cases hlt : k < n
    · obtain ⟨b, o, x, rfl, hb, hx, hc⟩ := (HR.out.keep (N0.trans hN)).at_ hlt
      have g0 := hc 0 _ rfl
      have g1 := hc 1 _ rfl
      have g2 := hc 2 _ rfl
      simp only [Nat.add_zero] at g0
      have HX := Lib.hid hx
      have c1 := c0.keep hN
      have k0 : wr.cell? ⟨sb, 0, none⟩ = some (.int .i64 s.x) := c1.cell 0
      have k1 : wr.cell? ⟨sb, 1, none⟩ = some (.int .i64 s.y) := c1.cell 1
      have k2 : wr.cell? ⟨sb, 2, none⟩ = some (.int .i64 s.d) := c1.cell 2
      have l1 := c1.lt
      have i0 : (0 : Int) ≤ (k : Int) := by omega
      have i1 : (k : Int) < (n : Int) := by omega
      clear hx hc c1
      obtain ⟨t, ht⟩ : ∃ t, decide (x = s) = t := ⟨_, rfl⟩
      have HT := Lib.hid ht
      have heq : ∀ W, (binOp .eql 158 (.agg #[.int .i64 x.x, .int .i64 x.y, .int .i64 x.d]) (.agg #[.int .i64 s.x, .int .i64 s.y, .int .i64 s.d])).run Try.prog W = .ok (.bool t) W := fun W => by rw [eql_sdB, sd_eq, HT.out]
      clear ht
      cases t
      all_goals
        go_wp2_with fail
        (refine wp_region_new (by kernel_rfl) (by kernel_rfl) ?_; (repeat (go_big_quiet_step ((fail)))); refine wpQuiet_nil ?_)
        intro w2 n2
      · go_wp2_with fail
        go_roundw
        case rel => exact ⟨k + 1, by omega, by go_num, fun j z hj hz => by
          rcases Nat.lt_or_ge j k with h | h
          · exact HF.out j z h hz
          · obtain rfl : j = k := by omega
            have hxy := HX.out
            rw [hz] at hxy
            injection hxy with hxy
            rw [hxy]; exact of_decide_eq_false HT.out, hN.trans n2⟩
        case measure => simp [intOf]; omega
      · have HV := Lib.hid (show decide (s ∈ l) = true from decide_eq_true (by rw [← of_decide_eq_true HT.out]; exact List.mem_of_getElem? HX.out))
        go_wp2_with fail
        go_ret
        exact ⟨by rw [HV.out]; rfl, N0.trans (hN.trans n2)⟩
    · obtain rfl : k = n := by omega
      have HV := Lib.hid (show decide (s ∈ l) = false from decide_eq_false (fun hm => by
        obtain ⟨i, hi, hs⟩ := List.getElem_of_mem hm
        exact HF.out i _ (by rw [← HL.out]; exact hi) (List.getElem?_eq_getElem hi) hs))
      go_wp2_with fail
      go_ret
      exact ⟨by rw [HV.out]; rfl, N0.trans hN⟩
theorem refHasSide_is {s : Sd} {l : List Sd} {v : Bool} (h : decide (s ∈ l) = v) (A : Option Addr) (n cap : Nat) (w : World) (hn : n ≤ 1000000) (hr : Rd w 3 encSd A n l) :
    Calls Try.prog 92 #[.slice A n cap, .agg #[.int .i64 s.x, .int .i64 s.y, .int .i64 s.d]] w fun e w' => e = .returned (.bool v) ∧ New w w' := h ▸ refHasSide_any s A n cap l w hn hr
end Go.Proofs.Ytaogolnoiffgiaa

namespace Go.Proofs.Ytaogolnoiffgiaa
open Go.RowKit Go.Sky Go.Sky.Ch

def candS (s : Sd) (k : Nat) : Sd := nextS s (1 - (k : Int))
theorem cand0 (s : Sd) : candS s 0 = nextS s 1 := rfl
theorem cand1 (s : Sd) : candS s 1 = nextS s 0 := rfl
theorem cand2 (s : Sd) : candS s 2 = nextS s 3 := by
  unfold candS nextS
  congr 1
  show (s.d + (1 - ((2 : Nat) : Int))) % 4 = _
  omega
theorem ahead_hit {r : Int → Int → Bool} {s : Sd} {k : Nat} (hk : k < 3) (hno : ∀ j, j < k → sideB r (candS s j) = false) (h : sideB r (candS s k) = true) : aheadS r s = candS s k := by
  unfold aheadS
  rw [← cand0, ← cand1, ← cand2]
  rcases (show k = 0 ∨ k = 1 ∨ k = 2 by omega) with rfl | rfl | rfl
  · rw [if_pos h]
  · rw [if_neg (by rw [hno 0 (by omega)]; decide), if_pos h]
  · rw [if_neg (by rw [hno 0 (by omega)]; decide), if_neg (by rw [hno 1 (by omega)]; decide), if_pos h]
theorem ahead_miss {r : Int → Int → Bool} {s : Sd} (hno : ∀ j, j < 3 → sideB r (candS s j) = false) : aheadS r s = s := by
  unfold aheadS
  rw [← cand0, ← cand1, ← cand2, if_neg (by rw [hno 0 (by omega)]; decide), if_neg (by rw [hno 1 (by omega)]; decide), if_neg (by rw [hno 2 (by omega)]; decide)]
theorem bMod_is {n v : Int} (h : n % 4 = v) (w : World) : Calls Try.prog 14 #[.int .i64 n, .int .i64 4] w fun e w' => e = .returned (.int .i64 v) ∧ w = w' := h ▸ Mod_any n 4 w (by omega) (by omega)

set_option maxRecDepth 100000 in
set_option maxHeartbeats 8000000 in
theorem refAhead_any (rows : List (List Int)) (s : Sd) (A : Option Addr) (n cap : Nat) (w : World) (hrc : Rect rows) (hbin : Bin rows) (hr : RowsL w 1 encI A n rows) (hs : (-90 ≤ s.x ∧ s.x ≤ 90) ∧ (-90 ≤ s.y ∧ s.y ≤ 90) ∧ (0 ≤ s.d ∧ s.d ≤ 3)) :
    Calls Try.prog 93 #[.slice A n cap, .agg #[.int .i64 s.x, .int .i64 s.y, .int .i64 s.d]] w fun e w' => e = .returned (.agg #[.int .i64 (aheadS (isR rows) s).x, .int .i64 (aheadS (isR rows) s).y, .int .i64 (aheadS (isR rows) s).d]) ∧ New w w' := by
  obtain ⟨hx, hy, hd⟩ := hs
  have HR := Lib.hid hr
  clear hr
  have N0 := ((New.refl w).alloc (.cells #[.int .i64 s.x, .int .i64 s.y, .int .i64 s.d] 158)).alloc (.cells #[.int .i64 0, .int .i64 0, .int .i64 0] 158)
  have b0 := (Bx.mk w 158 #[.int .i64 s.x, .int .i64 s.y, .int .i64 s.d]).alloc (.cells #[.int .i64 0, .int .i64 0, .int .i64 0] 158)
  have c0 := Bx.mk_at (w.alloc (.cells #[.int .i64 s.x, .int .i64 s.y, .int .i64 s.d] 158)) 158 #[.int .i64 0, .int .i64 0, .int .i64 0] (w.heap.size + 1) (by simp)
  obtain ⟨W0, hW0⟩ : ∃ W0, (w.alloc (.cells #[.int .i64 s.x, .int .i64 s.y, .int .i64 s.d] 158)).alloc (.cells #[.int .i64 0, .int .i64 0, .int .i64 0] 158) = W0 := ⟨_, rfl⟩
  have hsz0 : W0.heap.size = w.heap.size + 2 := by rw [← hW0]; simp
  rw [hW0] at N0 b0 c0
  have k0 : W0.cell? ⟨w.heap.size, 0, none⟩ = some (.int .i64 s.x) := b0.cell 0
  have k1 : W0.cell? ⟨w.heap.size, 1, none⟩ = some (.int .i64 s.y) := b0.cell 1
  have k2 : W0.cell? ⟨w.heap.size, 2, none⟩ = some (.int .i64 s.d) := b0.cell 2
  have l0 := b0.lt
  obtain ⟨vx, hvx⟩ : ∃ v, s.x + dxS s.d = v := ⟨_, rfl⟩
  obtain ⟨vy, hvy⟩ : ∃ v, s.y + dyS s.d = v := ⟨_, rfl⟩
  have HVX := Lib.hid hvx
  have HVY := Lib.hid hvy
  have bdx := dxS_le s.d
  have bdy := dyS_le s.d
  have bvx : -100 ≤ vx ∧ vx ≤ 100 := by omega
  have bvy : -100 ≤ vy ∧ vy ≤ 100 := by omega
  clear hvx hvy bdx bdy
  go_enter Try.func93, Try.ntmps93
  go_wp2_with fail
  try rw [hW0]
  clear hW0
  refine (refStep_is HVX.out HVY.out _ (by omega) (by omega) hd).mono ?_
  rintro e w1 ⟨rfl, n1⟩
  have n2 := n1.alloc (.cells #[.int .i64 vx, .int .i64 vy] 73)
  have a2 := Bx.mk w1 73 #[.int .i64 vx, .int .i64 vy]
  have b2 := b0.keep n2
  have c2 := c0.keep n2
  have N2 := N0.trans n2
  obtain ⟨W2, hW2⟩ : ∃ W2, w1.alloc (.cells #[.int .i64 vx, .int .i64 vy] 73) = W2 := ⟨_, rfl⟩
  obtain ⟨ab, hab⟩ : ∃ b, w1.heap.size = b := ⟨_, rfl⟩
  obtain ⟨sb, hsb⟩ : ∃ b, w.heap.size = b := ⟨_, rfl⟩
  rw [hW2] at a2 b2 c2 N2
  rw [hab] at a2
  rw [hsb] at b2 c2
  clear k0 k1 k2 l0 b0 c0 n1 n2
  go_wp2_with fail
  try rw [hW2]
  try rw [hab]
  try rw [hsb]
  clear hW2 hab
  go_loopw [6] (fun t wr => ∃ k : Nat, k ≤ 3 ∧ t = .int .i64 (1 - (k : Int)) ∧ Hid (∀ j, j < k → sideB (isR rows) (candS s j) = false) ∧ New W2 wr) (fun t _ => ((intOf t) + 2).toNat)
  case atStart => exact ⟨0, by omega, rfl, fun j hj => absurd hj (by omega), New.refl _⟩
  case round =>
    obtain ⟨k, hk, rfl, HF, hN⟩ := hrel
    have a3 := a2.keep hN
    have b3 := b2.keep hN
    have c3 := c2.keep hN
    have k0 : wr.cell? ⟨sb, 0, none⟩ = some (.int .i64 s.x) := b3.cell 0
    have k1 : wr.cell? ⟨sb, 1, none⟩ = some (.int .i64 s.y) := b3.cell 1
    have k2 : wr.cell? ⟨sb, 2, none⟩ = some (.int .i64 s.d) := b3.cell 2
    have q0 : wr.cell? ⟨ab, 0, none⟩ = some (.int .i64 vx) := a3.cell 0
    have q1 : wr.cell? ⟨ab, 1, none⟩ = some (.int .i64 vy) := a3.cell 1
    have lb := b3.lt
    have la := a3.lt
    by_cases hlt : k < 3
    · obtain ⟨t, ht⟩ : ∃ t, 1 - (k : Int) = t := ⟨_, rfl⟩
      have ht1 : -1 ≤ t ∧ t ≤ 1 := by omega
      have HTK := Lib.hid ht
      obtain ⟨d', hd'⟩ : ∃ d', (s.d + t) % 4 = d' := ⟨_, rfl⟩
      have HD := Lib.hid hd'
      have bd' : 0 ≤ d' ∧ d' ≤ 3 := by omega
      have HC := Lib.hid (show candS s k = ⟨vx, vy, d'⟩ by unfold candS nextS; rw [HVX.out, HVY.out, HTK.out, HD.out])
      obtain ⟨g, hg⟩ : ∃ g, sideB (isR rows) ⟨vx, vy, d'⟩ = g := ⟨_, rfl⟩
      have HG := Lib.hid hg
      rw [ht]
      clear hd' hg a3 b3
      go_wp2_with fail
      refine wp_region_takes0 wr (New.refl _) 5 4 #[true, true, true, true, true, false, false, false, false] (by kernel_rfl) (by kernel_rfl) (by kernel_rfl) (by kernel_rfl) (by kernel_rfl) (by kernel_rfl) ?_
      simp only [List.take_succ_cons, List.take_zero]
      (repeat (go_big_quiet_step ((fail))))
      refine wpQuiet_nil ?_
      intro W1 n1
      refine two_next 5 7 (by kernel_rfl) (new_plus n1) ?o1 ?o2
      case' o1 =>
        refine wpOpIn_list rfl ?_
        gi_wp2_with fail
        refine ⟨trivial, callsIn_wide.2 ((bMod_is HD.out _).mono ?_)⟩
        rintro e w' ⟨rfl, rfl⟩
        gi_wp2
        refine two_next 6 7 (by kernel_rfl) (new_plus n1) ?o3 ?o4
      case' o3 =>
        refine wpOpIn_list rfl ?_
        gi_wp2
        refine one_next 7 (by kernel_rfl) (new_plus n1) (wpOpIn_list rfl ?_)
        gi_wp2
        refine one_next 8 (by kernel_rfl) (new_plus (n1.alloc _)) (wpOpIn_list rfl ?_)
        gi_wp2
      case' o4 =>
        refine wpOpIn_list rfl ?_
        gi_wp2
        refine one_next 6 (by kernel_rfl) (new_plus (n1.alloc _)) (wpOpIn_list rfl ?_)
        gi_wp2
        refine one_next 8 (by kernel_rfl) (new_plus (n1.alloc _)) (wpOpIn_list rfl ?_)
        gi_wp2
      case' o2 =>
        refine wpOpIn_list rfl ?_
        gi_wp2
        refine one_next 5 (by kernel_rfl) (new_plus (n1.alloc _)) (wpOpIn_list rfl ?_)
        gi_wp2_with fail
        refine ⟨trivial, callsIn_wide.2 ((bMod_is HD.out _).mono ?_)⟩
        rintro e w' ⟨rfl, rfl⟩
        gi_wp2
        refine one_next 6 (by kernel_rfl) (new_plus (n1.alloc _)) (wpOpIn_list rfl ?_)
        gi_wp2
        refine one_next 8 (by kernel_rfl) (new_plus (n1.alloc _)) (wpOpIn_list rfl ?_)
        gi_wp2
      all_goals
        have nn := n1.alloc (.cells #[.int .i64 vx, .int .i64 vy, .int .i64 d'] 158)
        have b7 := Bx.mk W1 158 #[.int .i64 vx, .int .i64 vy, .int .i64 d']
        refine end_any (new_plus nn) (by kernel_rfl) ?_
        obtain ⟨W3, hW3⟩ : ∃ W3, W1.alloc (.cells #[.int .i64 vx, .int .i64 vy, .int .i64 d'] 158) = W3 := ⟨_, rfl⟩
        rw [hW3] at nn b7
        try rw [hW3]
        clear hW3
        have N3 := hN.trans nn
        have l7 := b7.lt
        have s0 : W3.cell? ⟨W1.heap.size, 0, none⟩ = some (.int .i64 vx) := b7.cell 0
        have s1 : W3.cell? ⟨W1.heap.size, 1, none⟩ = some (.int .i64 vy) := b7.cell 1
        have s2 : W3.cell? ⟨W1.heap.size, 2, none⟩ = some (.int .i64 d') := b7.cell 2
        cases g
        · go_wp2_with fail
          refine (refIsSide_is HG.out A n cap _ hrc hbin (HR.out.keep (N2.trans N3)) bvx bvy bd').mono ?_
          rintro e w4 ⟨rfl, n4⟩
          go_wp2_with fail
          go_roundw
          case rel => exact ⟨k + 1, by omega, by congr 1; have := HTK.out; omega, fun j hj => by
            rcases Nat.lt_or_ge j k with h | h
            · exact HF.out j h
            · obtain rfl : j = k := by omega
              rw [HC.out]; exact HG.out, N3.trans n4⟩
          case measure => simp [intOf]; omega
        · have HA := Lib.hid (show aheadS (isR rows) s = ⟨vx, vy, d'⟩ by rw [ahead_hit hlt HF.out (by rw [HC.out]; exact HG.out), HC.out])
          go_wp2_with fail
          refine (refIsSide_is HG.out A n cap _ hrc hbin (HR.out.keep (N2.trans N3)) bvx bvy bd').mono ?_
          rintro e w4 ⟨rfl, n4⟩
          have b8 := b7.keep n4
          have c4 := (c2.keep N3).keep n4
          have N4 := (N2.trans N3).trans n4
          clear b7 s0 s1 s2 l7
          have s0 : w4.cell? ⟨W1.heap.size, 0, none⟩ = some (.int .i64 vx) := b8.cell 0
          have s1 : w4.cell? ⟨W1.heap.size, 1, none⟩ = some (.int .i64 vy) := b8.cell 1
          have s2 : w4.cell? ⟨W1.heap.size, 2, none⟩ = some (.int .i64 d') := b8.cell 2
          have l8 := b8.lt
          have z0 : w4.cell? ⟨sb + 1, 0, none⟩ = some (.int .i64 0) := c4.cell 0
          have z1 : w4.cell? ⟨sb + 1, 1, none⟩ = some (.int .i64 0) := c4.cell 1
          have z2 : w4.cell? ⟨sb + 1, 2, none⟩ = some (.int .i64 0) := c4.cell 2
          have f0 := c4.free 0
          have f1 := c4.free 1
          have f2 := c4.free 2
          have l4 := c4.lt
          have HX := Lib.hid (((c4.set 0 (.int .i64 vx)).set 1 (.int .i64 vy)).set 2 (.int .i64 d'))
          have hge : w.heap.size ≤ sb + 1 := by omega
          have HN := Lib.hid (((N4.setCell (p := ⟨sb + 1, 0, none⟩) hge (.int .i64 vx)).setCell (p := ⟨sb + 1, 1, none⟩) hge (.int .i64 vy)).setCell (p := ⟨sb + 1, 2, none⟩) hge (.int .i64 d'))
          go_wp2_with fail
          (try simp only [Exit.inBlock, Exit.then])
          refine bodyPost_ret (results_cell_row rfl _ _ (sb + 1) 158 #[.int .i64 vx, .int .i64 vy, .int .i64 d'] (0, 0) _ rfl HX.out Try.underlying158 rfl (by kernel_rfl)) rfl ?_
          exact ⟨by rw [HA.out], HN.out⟩
    · obtain rfl : k = 3 := by omega
      have HA := Lib.hid (ahead_miss HF.out)
      have z0 : wr.cell? ⟨sb + 1, 0, none⟩ = some (.int .i64 0) := c3.cell 0
      have z1 : wr.cell? ⟨sb + 1, 1, none⟩ = some (.int .i64 0) := c3.cell 1
      have z2 : wr.cell? ⟨sb + 1, 2, none⟩ = some (.int .i64 0) := c3.cell 2
      have f0 := c3.free 0
      have f1 := c3.free 1
      have f2 := c3.free 2
      have l4 := c3.lt
      have N4 := N2.trans hN
      have HX := Lib.hid (((c3.set 0 (.int .i64 s.x)).set 1 (.int .i64 s.y)).set 2 (.int .i64 s.d))
      have hge : w.heap.size ≤ sb + 1 := by omega
      have HN := Lib.hid (((N4.setCell (p := ⟨sb + 1, 0, none⟩) hge (.int .i64 s.x)).setCell (p := ⟨sb + 1, 1, none⟩) hge (.int .i64 s.y)).setCell (p := ⟨sb + 1, 2, none⟩) hge (.int .i64 s.d))
      clear a3 b3
      go_wp2_with fail
      (try simp only [Exit.inBlock, Exit.then])
      refine bodyPost_ret (results_cell_row rfl _ _ (sb + 1) 158 #[.int .i64 s.x, .int .i64 s.y, .int .i64 s.d] (0, 0) _ rfl HX.out Try.underlying158 rfl (by kernel_rfl)) rfl ?_
      exact ⟨by rw [HA.out], HN.out⟩
theorem refAhead_is {rows : List (List Int)} {s v : Sd} (h : aheadS (isR rows) s = v) (A : Option Addr) (n cap : Nat) (w : World) (hrc : Rect rows) (hbin : Bin rows) (hr : RowsL w 1 encI A n rows) (hs : (-90 ≤ s.x ∧ s.x ≤ 90) ∧ (-90 ≤ s.y ∧ s.y ≤ 90) ∧ (0 ≤ s.d ∧ s.d ≤ 3)) :
    Calls Try.prog 93 #[.slice A n cap, .agg #[.int .i64 s.x, .int .i64 s.y, .int .i64 s.d]] w fun e w' => e = .returned (.agg #[.int .i64 v.x, .int .i64 v.y, .int .i64 v.d]) ∧ New w w' := h ▸ refAhead_any rows s A n cap w hrc hbin hr hs
end Go.Proofs.Ytaogolnoiffgiaa
