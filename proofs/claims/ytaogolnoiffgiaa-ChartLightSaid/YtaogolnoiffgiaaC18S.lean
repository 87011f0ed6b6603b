/- Contracts: light. -/
import Derived.BigQuiet
import Derived.Deep.AppendLies
import Derived.Deep.Draws
import Derived.Deep.Quiet
import Derived.Deep.QuietTactic
import Derived.Laws.BitsAllLaws
import Derived.Lib.Hide
import Derived.MapKept
import Derived.Maps.Keyed
import Derived.OrdersIn
import Derived.OwnWalkIn
import Derived.RangeFuncCalls
import Derived.Shelf.RegionOpen
import Derived.StillTail
import Derived.TacticsIn
import Derived.Test.YtaogolnoiffgiaaProg
import Derived.WalkKit
import Derived.WalkLawsBesides
import Derived.WalkSpells
import Derived.Test.YtaogolnoiffgiaaC18K
import Derived.Test.YtaogolnoiffgiaaC18R

namespace Go.Proofs.Ytaogolnoiffgiaa
open Go.RowKit Go.Sky Go.Sky.Ch

theorem eql_vec_d (n : Nat) (a b c d e f : Int) (W : World) : (Op.equalIn (n + 2) 59 (.agg #[.int .i64 a, .int .i64 b, .int .i64 c]) (.agg #[.int .i64 d, .int .i64 e, .int .i64 f])).run Try.prog W = .ok (a == d && (b == e && c == f)) W := by
  have u := Try.underlying59
  have u3 := Try.underlying3
  have z3 := Try.sizeOf3
  have a3 := Try.isAgg3
  rw [Op.equalIn]
  by_cases h1 : a = d <;> by_cases h2 : b = e <;> by_cases h3 : c = f
  all_goals
    simp [run_underlying u, part, go_sem, h1, h2, h3, a3, u3]
theorem guard_vec : (Try.prog).eqGuardType (Try.prog).depth 59 = false := by kernel_rfl
theorem neq_vec (a b c : Int) (W : World) : (binOp .neq 59 (.agg #[.int .i64 a, .int .i64 b, .int .i64 c]) (.agg #[.int .i64 0, .int .i64 0, .int .i64 0])).run Try.prog W = .ok (.bool (!(a == 0 && (b == 0 && c == 0)))) W := by
  have h := eql_vec_d 9998 a b c 0 0 0
  simp only [binOp]
  simp [Op.equal, Op.maxDepth, h, go_sem]

set_option maxRecDepth 100000 in
set_option maxHeartbeats 4000000 in
theorem cVectorErr_any (v : Ve) (w : World) :
    Calls Try.prog 94 #[.agg #[.int .i64 v.x, .int .i64 v.y, .int .i64 v.z]] w fun e w' => e = .returned (.int .i64 (vecE v)) ∧ New w w' := by
  obtain ⟨x, y, z⟩ := v
  dsimp only
  have N0 := (New.refl w).alloc (.cells #[.int .i64 x, .int .i64 y, .int .i64 z] 59)
  have b0 := Bx.mk w 59 #[.int .i64 x, .int .i64 y, .int .i64 z]
  have HV := Lib.hid (show vecE ⟨x, y, z⟩ = firstE [errU (sizedI x 1000 && sizedI y 1000 && sizedI z 1000) 2, errU (!(x == 0 && (y == 0 && z == 0))) 11] from rfl)
  obtain ⟨q1, h1⟩ : ∃ v, sizedI x 1000 = v := ⟨_, rfl⟩
  obtain ⟨q2, h2⟩ : ∃ v, sizedI y 1000 = v := ⟨_, rfl⟩
  obtain ⟨q3, h3⟩ : ∃ v, sizedI z 1000 = v := ⟨_, rfl⟩
  obtain ⟨q4, h4⟩ : ∃ v, (!(x == 0 && (y == 0 && z == 0))) = v := ⟨_, rfl⟩
  rw [h1, h2, h3, h4] at HV
  have hneq : ∀ W, (binOp .neq 59 (.agg #[.int .i64 x, .int .i64 y, .int .i64 z]) (.agg #[.int .i64 0, .int .i64 0, .int .i64 0])).run Try.prog W = .ok (.bool q4) W := fun W => by rw [neq_vec, h4]
  have H1 := Lib.hid h1
  have H2 := Lib.hid h2
  have H3 := Lib.hid h3
  clear h1 h2 h3 h4
  obtain ⟨W2, hW2⟩ : ∃ W2, w.alloc (.cells #[.int .i64 x, .int .i64 y, .int .i64 z] 59) = W2 := ⟨_, rfl⟩
  rw [hW2] at b0 N0
  have c0 : W2.cell? ⟨w.heap.size, 0, none⟩ = some (.int .i64 x) := b0.cell 0
  have c1 : W2.cell? ⟨w.heap.size, 1, none⟩ = some (.int .i64 y) := b0.cell 1
  have c2 : W2.cell? ⟨w.heap.size, 2, none⟩ = some (.int .i64 z) := b0.cell 2
  have l0 := b0.lt
  cases q1 <;> cases q2
  all_goals
    go_enter Try.func94, Try.ntmps94
    go_wp2_with (go_at_call 84; refine (cIsSized_any _ _ _ (by omega) (by omega)).mono ?_; rintro e w' ⟨rfl, rfl⟩; first | rw [H1.out] | rw [H2.out] | rw [H3.out])
    (refine wp_region_tail 6 (by kernel_rfl) (by kernel_rfl) ?_; simp only [List.take_succ_cons, List.take_zero, List.drop_succ_cons, List.drop_zero]; (repeat (go_big_quiet_step ((first | (go_at_call 81; exact quiet_same (cUnless_any _ _ _)))))); refine wpQuiet_nil ?_)
    intro w3 n3
    go_wp2_with (go_at_call 80; refine (cFirst_any _ 2 2 [_, _] _ (by omega) rfl (cells_new _ _ _ _ (by simp) _ rfl)).mono ?_; rintro e w' ⟨rfl, rfl⟩)
    go_ret
    exact ⟨by rw [HV.out]; rfl, (N0.trans n3).alloc _⟩
theorem cVectorErr_is {v : Ve} {r : Int} (h : vecE v = r) (w : World) :
    Calls Try.prog 94 #[.agg #[.int .i64 v.x, .int .i64 v.y, .int .i64 v.z]] w fun e w' => e = .returned (.int .i64 r) ∧ New w w' := h ▸ cVectorErr_any v w

theorem mul_bd3 {a b : Int} (ha : -1000 ≤ a ∧ a ≤ 1000) (hb : -1000 ≤ b ∧ b ≤ 1000) : -1000000 ≤ a * b ∧ a * b ≤ 1000000 := by
  have h1 : (a * b).natAbs ≤ 1000 * 1000 := by rw [Int.natAbs_mul]; exact Nat.mul_le_mul (by omega) (by omega)
  omega
set_option maxRecDepth 100000 in
set_option maxHeartbeats 4000000 in
theorem cLitAt_any (a b : Ve) (t : Int) (w : World) :
    Calls Try.prog 32 #[.agg #[.int .i64 a.x, .int .i64 a.y, .int .i64 a.z], .agg #[.int .i64 b.x, .int .i64 b.y, .int .i64 b.z], .int .i64 t] w fun e w' => New w w' ∧
      ((∃ r, litE a b t = r ∧ r ≠ 0 ∧ e = .returned (.tuple #[.int .i64 0, .int .i64 r])) ∨ (litE a b t = 0 ∧ e = .returned (.tuple #[.int .i64 (litS a b t), .int .i64 0]))) := by
  have N0 := ((New.refl w).alloc (.cells #[.int .i64 a.x, .int .i64 a.y, .int .i64 a.z] 59)).alloc (.cells #[.int .i64 b.x, .int .i64 b.y, .int .i64 b.z] 59)
  have b0 := (Bx.mk w 59 #[.int .i64 a.x, .int .i64 a.y, .int .i64 a.z]).alloc (.cells #[.int .i64 b.x, .int .i64 b.y, .int .i64 b.z] 59)
  have b1 := Bx.mk_at (w.alloc (.cells #[.int .i64 a.x, .int .i64 a.y, .int .i64 a.z] 59)) 59 #[.int .i64 b.x, .int .i64 b.y, .int .i64 b.z] (w.heap.size + 1) (by simp)
  obtain ⟨W2, hW2⟩ : ∃ W2, (w.alloc (.cells #[.int .i64 a.x, .int .i64 a.y, .int .i64 a.z] 59)).alloc (.cells #[.int .i64 b.x, .int .i64 b.y, .int .i64 b.z] 59) = W2 := ⟨_, rfl⟩
  rw [hW2] at b0 b1 N0
  have c0 : W2.cell? ⟨w.heap.size, 0, none⟩ = some (.int .i64 a.x) := b0.cell 0
  have c1 : W2.cell? ⟨w.heap.size, 1, none⟩ = some (.int .i64 a.y) := b0.cell 1
  have c2 : W2.cell? ⟨w.heap.size, 2, none⟩ = some (.int .i64 a.z) := b0.cell 2
  have d0 : W2.cell? ⟨w.heap.size + 1, 0, none⟩ = some (.int .i64 b.x) := b1.cell 0
  have d1 : W2.cell? ⟨w.heap.size + 1, 1, none⟩ = some (.int .i64 b.y) := b1.cell 1
  have d2 : W2.cell? ⟨w.heap.size + 1, 2, none⟩ = some (.int .i64 b.z) := b1.cell 2
  have l0 := b0.lt
  have l1 := b1.lt
  obtain ⟨q, hq⟩ : ∃ v, litE a b t = v := ⟨_, rfl⟩
  have HV := Lib.hid (show firstE [vecE a, vecE b, errU (inR t 0 4000000) 2] = q from hq)
  obtain ⟨q1, h1⟩ : ∃ v, vecE a = v := ⟨_, rfl⟩
  obtain ⟨q2, h2⟩ : ∃ v, vecE b = v := ⟨_, rfl⟩
  obtain ⟨q3, h3⟩ : ∃ v, inR t 0 4000000 = v := ⟨_, rfl⟩
  rw [h1, h2, h3] at HV
  have H1 := Lib.hid h1
  have H2 := Lib.hid h2
  have H3 := Lib.hid h3
  have HB0 := Lib.hid b0
  have HB1 := Lib.hid b1
  have HQ := Lib.hid hq
  clear h1 h2 h3 hq b0 b1
  go_enter Try.func32, Try.ntmps32
  go_wp2_with fail
  try rw [hW2]
  clear hW2
  (refine wp_region_tail 7 (by kernel_rfl) (by kernel_rfl) ?_; simp only [List.take_succ_cons, List.take_zero, List.drop_succ_cons, List.drop_zero]; (repeat (go_big_quiet_step ((first | (go_at_call 94; with_reducible exact quiet_new (cVectorErr_is H1.out _)) | (go_at_call 94; with_reducible exact quiet_new (cVectorErr_is H2.out _)) | (go_at_call 95; with_reducible exact quiet_same (cWithin_is H3.out _)) | (go_at_call 81; exact quiet_same (cUnless_any _ _ _)))))); refine wpQuiet_nil ?_)
  intro w3 n3
  by_cases hq0 : q = 0
  · subst hq0
    have hz := firstE_zero HQ.out
    obtain ⟨ax, ay, az, _⟩ := vecE_zero (hz (vecE a) (by simp))
    obtain ⟨bx, by', bz, _⟩ := vecE_zero (hz (vecE b) (by simp))
    have ht := inR_iff.1 (errU_nil (by decide) (hz (errU (inR t 0 4000000) 2) (by simp)))
    have m1 := mul_bd3 ax bx
    have m2 := mul_bd3 ay by'
    have m3 := mul_bd3 az bz
    have HD := Lib.hid (show dotV a b = a.x * b.x + a.y * b.y + a.z * b.z from rfl)
    have HL := Lib.hid (show litS a b t = if t < dotV a b then 2 else if dotV a b < -t then 0 else 1 from rfl)
    have hp1 : -3000000 ≤ a.x * b.x + a.y * b.y + a.z * b.z ∧ a.x * b.x + a.y * b.y + a.z * b.z ≤ 3000000 := by omega
    have B3 := HB0.out.keep n3
    have B4 := HB1.out.keep n3
    have g0 := B3.cell 0
    have g1 := B3.cell 1
    have g2 := B3.cell 2
    have k0 := B4.cell 0
    have k1 := B4.cell 1
    have k2 := B4.cell 2
    have l3 := B3.lt
    have l4 := B4.lt
    simp only [List.getElem?_toArray, List.getElem?_cons_zero, List.getElem?_cons_succ] at g0 g1 g2 k0 k1 k2
    rw [HD.out] at HL
    clear hz B3 B4 c0 c1 c2 d0 d1 d2
    by_cases hA : t < a.x * b.x + a.y * b.y + a.z * b.z
    · have dA : decide (t < a.x * b.x + a.y * b.y + a.z * b.z) = true := decide_eq_true hA
      have HL2 := Lib.hid (HL.out.trans (if_pos hA))
      clear hA
      go_wp2_with (go_at_call 80; refine (cFirst_any _ 3 3 [_, _, _] _ (by omega) rfl (cells_new _ _ _ _ (by simp) _ rfl)).mono ?_; rintro e w' ⟨rfl, rfl⟩; rw [HV.out])
      go_ret2
      exact ⟨(N0.trans n3).alloc _, .inr ⟨HQ.out, by rw [HL2.out]; rfl⟩⟩
    · have dA : decide (t < a.x * b.x + a.y * b.y + a.z * b.z) = false := decide_eq_false hA
      by_cases hB : a.x * b.x + a.y * b.y + a.z * b.z < -t
      · have dB : decide (a.x * b.x + a.y * b.y + a.z * b.z < -t) = true := decide_eq_true hB
        have HL2 := Lib.hid (HL.out.trans ((if_neg hA).trans (if_pos hB)))
        clear hA hB
        go_wp2_with (go_at_call 80; refine (cFirst_any _ 3 3 [_, _, _] _ (by omega) rfl (cells_new _ _ _ _ (by simp) _ rfl)).mono ?_; rintro e w' ⟨rfl, rfl⟩; rw [HV.out])
        go_ret2
        exact ⟨(N0.trans n3).alloc _, .inr ⟨HQ.out, by rw [HL2.out]; rfl⟩⟩
      · have dB : decide (a.x * b.x + a.y * b.y + a.z * b.z < -t) = false := decide_eq_false hB
        have HL2 := Lib.hid (HL.out.trans ((if_neg hA).trans (if_neg hB)))
        clear hA hB
        go_wp2_with (go_at_call 80; refine (cFirst_any _ 3 3 [_, _, _] _ (by omega) rfl (cells_new _ _ _ _ (by simp) _ rfl)).mono ?_; rintro e w' ⟨rfl, rfl⟩; rw [HV.out])
        go_ret2
        exact ⟨(N0.trans n3).alloc _, .inr ⟨HQ.out, by rw [HL2.out]; rfl⟩⟩
  · have bq : (q != 0) = true := by simpa using hq0
    go_wp2_with (go_at_call 80; refine (cFirst_any _ 3 3 [_, _, _] _ (by omega) rfl (cells_new _ _ _ _ (by simp) _ rfl)).mono ?_; rintro e w' ⟨rfl, rfl⟩; rw [HV.out])
    go_ret2
    exact ⟨(N0.trans n3).alloc _, .inl ⟨q, HQ.out, hq0, rfl⟩⟩
end Go.Proofs.Ytaogolnoiffgiaa
