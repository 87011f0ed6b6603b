/- The walk of ChartLight, case by case. (printed by wip/gen_k25.py) -/
import Derived.BigQuiet
import Derived.BigRegion
import Derived.Deep.AppendLies
import Derived.Deep.Draws
import Derived.Deep.Quiet
import Derived.Deep.QuietTactic
import Derived.DeepKeys4
import Derived.Laws.BitsAllLaws
import Derived.Laws.Rows
import Derived.Lib.Hide
import Derived.Lib.SliceRun
import Derived.LoopIn
import Derived.LoopNIn
import Derived.MapKept
import Derived.Maps.Keyed
import Derived.Maps.OwnIn
import Derived.Maps.OwnSet
import Derived.OrdersIn
import Derived.OwnWalkIn
import Derived.RangeFuncBound
import Derived.RangeFuncCalls
import Derived.RangeFuncLeaves
import Derived.RangeFuncNested
import Derived.Shelf.Abstract
import Derived.Shelf.GgSortFunc.InsertionK
import Derived.Shelf.RegionOpen
import Derived.Shelf.SlSortCmp.NoneTotal
import Derived.Shelf.SlSortCmp.QuietGrown
import Derived.Shelf.SlSortCmp.WholeK
import Derived.StillTail
import Derived.TacticsIn
import Derived.TacticsInMore
import Derived.Test.YtaogolnoiffgiaaProg
import Derived.WalkArith
import Derived.WalkKit
import Derived.WalkLawsBesides
import Derived.WalkSpells
import Derived.Test.YtaogolnoiffgiaaC18U
import Derived.Test.YtaogolnoiffgiaaC18ZB

namespace Go.Proofs.Ytaogolnoiffgiaa
open Go.RowKit Go.Sky Go.Sky.Ch

theorem neq_vecG (a b c d e f : Int) (W : World) : (binOp .neq 59 (.agg #[.int .i64 a, .int .i64 b, .int .i64 c]) (.agg #[.int .i64 d, .int .i64 e, .int .i64 f])).run Try.prog W = .ok (.bool (!(a == d && (b == e && c == f)))) W := by
  have h := eql_vec_d 9998 a b c d e f
  simp only [binOp]
  simp [Op.equal, Op.maxDepth, h, go_sem]
theorem cLitAt_bad {a b : Ve} {t r : Int} (h : litE a b t = r) (h0 : r ≠ 0) (w : World) :
    Calls Try.prog 32 #[.agg #[.int .i64 a.x, .int .i64 a.y, .int .i64 a.z], .agg #[.int .i64 b.x, .int .i64 b.y, .int .i64 b.z], .int .i64 t] w fun e w' => e = .returned (.tuple #[.int .i64 0, .int .i64 r]) ∧ New w w' := by
  refine (cLitAt_any a b t w).mono ?_
  rintro e w' ⟨hn, ⟨r', h1, h2, he⟩ | ⟨h1, he⟩⟩
  · rw [h] at h1; subst h1; exact ⟨he, hn⟩
  · rw [h] at h1; exact absurd h1 h0
theorem cLitAt_ok {a b : Ve} {t v : Int} (h : litE a b t = 0) (hv : litS a b t = v) (w : World) :
    Calls Try.prog 32 #[.agg #[.int .i64 a.x, .int .i64 a.y, .int .i64 a.z], .agg #[.int .i64 b.x, .int .i64 b.y, .int .i64 b.z], .int .i64 t] w fun e w' => e = .returned (.tuple #[.int .i64 v, .int .i64 0]) ∧ New w w' := by
  subst hv
  refine (cLitAt_any a b t w).mono ?_
  rintro e w' ⟨hn, ⟨r', h1, h2, he⟩ | ⟨h1, he⟩⟩
  · rw [h] at h1; exact absurd h1.symm h2
  · exact ⟨he, hn⟩
theorem cSunAt_bad {v : Ve} {q r : Int} (h : sunE v q = r) (h0 : r ≠ 0) (w : World) :
    Calls Try.prog 33 #[.agg #[.int .i64 v.x, .int .i64 v.y, .int .i64 v.z], .int .i64 q] w fun e w' => e = .returned (.tuple #[.agg #[.int .i64 0, .int .i64 0, .int .i64 0], .int .i64 r]) ∧ New w w' := by
  refine (cSunAt_any v q w).mono ?_
  rintro e w' ⟨hn, ⟨r', h1, h2, he⟩ | ⟨h1, he⟩⟩
  · rw [h] at h1; subst h1; exact ⟨he, hn⟩
  · rw [h] at h1; exact absurd h1 h0
theorem cSunAt_ok {v u : Ve} {q : Int} (h : sunE v q = 0) (hu : sunS v (q % 4).toNat = u) (w : World) :
    Calls Try.prog 33 #[.agg #[.int .i64 v.x, .int .i64 v.y, .int .i64 v.z], .int .i64 q] w fun e w' => e = .returned (.tuple #[.agg #[.int .i64 u.x, .int .i64 u.y, .int .i64 u.z], .int .i64 0]) ∧ New w w' := by
  subst hu
  refine (cSunAt_any v q w).mono ?_
  rintro e w' ⟨hn, ⟨r', h1, h2, he⟩ | ⟨h1, he⟩⟩
  · rw [h] at h1; exact absurd h1.symm h2
  · exact ⟨he, hn⟩
theorem refVec_is {v : Ve} {r : Int} (h : vecE v = r) (w : World) :
    Calls Try.prog 34 #[.agg #[.int .i64 v.x, .int .i64 v.y, .int .i64 v.z]] w fun e w' => e = .returned (.int .i64 r) ∧ New w w' := h ▸ refVec_any v w

theorem refSun_is {v u : Ve} {q : Int} (h : sunS v (q % 4).toNat = u) (w : World) (hv : (-1000 ≤ v.x ∧ v.x ≤ 1000) ∧ (-1000 ≤ v.y ∧ v.y ≤ 1000) ∧ (-1000 ≤ v.z ∧ v.z ≤ 1000)) (hq : 0 ≤ q ∧ q ≤ 1000000000000) :
    Calls Try.prog 37 #[.agg #[.int .i64 v.x, .int .i64 v.y, .int .i64 v.z], .int .i64 q] w fun e w' => e = .returned (.agg #[.int .i64 u.x, .int .i64 u.y, .int .i64 u.z]) ∧ New w w' := h ▸ refSun_any v q w hv hq
theorem refLit_is {a b : Ve} {t p : Int} (h : litS a b t = p) (w : World) (ha : (-1000 ≤ a.x ∧ a.x ≤ 1000) ∧ (-1000 ≤ a.y ∧ a.y ≤ 1000) ∧ (-1000 ≤ a.z ∧ a.z ≤ 1000)) (hb : (-1000 ≤ b.x ∧ b.x ≤ 1000) ∧ (-1000 ≤ b.y ∧ b.y ≤ 1000) ∧ (-1000 ≤ b.z ∧ b.z ≤ 1000)) (ht : 0 ≤ t ∧ t ≤ 4000000) :
    Calls Try.prog 35 #[.agg #[.int .i64 a.x, .int .i64 a.y, .int .i64 a.z], .agg #[.int .i64 b.x, .int .i64 b.y, .int .i64 b.z], .int .i64 t] w fun e w' => e = .returned (.int .i64 p) ∧ New w w' := h ▸ refLit_any a b t w ha hb ht
/-- The boxes of the arguments. -/
structure LBox (sb : Nat) (a b : Ve) (t q : Int) (W : World) : Prop where
  A : Bx W sb 59 #[.int .i64 a.x, .int .i64 a.y, .int .i64 a.z]
  B : Bx W (sb + 1) 59 #[.int .i64 b.x, .int .i64 b.y, .int .i64 b.z]
  X : Bx W (sb + 1 + 1) 60 #[.int .i64 t, .int .i64 q]
theorem LBox.keep {sb : Nat} {a b : Ve} {t q : Int} {W V : World} (h : LBox sb a b t q W) (hn : New W V) : LBox sb a b t q V := ⟨h.A.keep hn, h.B.keep hn, h.X.keep hn⟩

set_option maxRecDepth 100000 in
set_option maxHeartbeats 8000000 in
theorem light_A (a b : Ve) (t q : Int) (w : World) (r : Int) (ha : vecE a = r) (hr : r ≠ 0) :
    Calls Try.prog 5 #[.agg #[.int .i64 a.x, .int .i64 a.y, .int .i64 a.z], .agg #[.int .i64 b.x, .int .i64 b.y, .int .i64 b.z], .agg #[.int .i64 t, .int .i64 q]] w fun e w' => e = .returned (.bool true) ∧ New w w' := by
  have N0 := (((New.refl w).alloc (.cells #[.int .i64 a.x, .int .i64 a.y, .int .i64 a.z] 59)).alloc (.cells #[.int .i64 b.x, .int .i64 b.y, .int .i64 b.z] 59)).alloc (.cells #[.int .i64 t, .int .i64 q] 60)
  have L0 : LBox w.heap.size a b t q _ := ⟨((Bx.mk w 59 #[.int .i64 a.x, .int .i64 a.y, .int .i64 a.z]).alloc (.cells #[.int .i64 b.x, .int .i64 b.y, .int .i64 b.z] 59)).alloc (.cells #[.int .i64 t, .int .i64 q] 60),
    (Bx.mk_at _ 59 #[.int .i64 b.x, .int .i64 b.y, .int .i64 b.z] (w.heap.size + 1) (by simp)).alloc _, Bx.mk_at _ 60 #[.int .i64 t, .int .i64 q] (w.heap.size + 1 + 1) (by simp)⟩
  obtain ⟨W0, hW0⟩ : ∃ W, (((w.alloc (.cells #[.int .i64 a.x, .int .i64 a.y, .int .i64 a.z] 59)).alloc (.cells #[.int .i64 b.x, .int .i64 b.y, .int .i64 b.z] 59)).alloc (.cells #[.int .i64 t, .int .i64 q] 60)) = W := ⟨_, rfl⟩
  rw [hW0] at N0 L0
  have HA := Lib.hid ha
  have HLE := Lib.hid (show litE a b t = r by unfold litE firstE; rw [ha, if_neg hr])
  have HSE := Lib.hid (show sunE a q = r by unfold sunE firstE; rw [ha, if_neg hr])
  have br : (r == 0) = false := by simpa using hr
  have bn : (r != 0) = true := by simpa using hr
  have heq : ∀ W, (binOp .eql 59 (.agg #[.int .i64 0, .int .i64 0, .int .i64 0]) (.agg #[.int .i64 0, .int .i64 0, .int .i64 0])).run Try.prog W = .ok (.bool true) W := fun W => by rw [eql_vec0]; rfl
  clear ha
  go_enter Try.func5, Try.ntmps5
  go_wp2_with fail
  try rw [hW0]
  clear hW0
  refine (awake6_any _).mono ?_
  rintro e w1 ⟨rfl, n1⟩
  have N1 := N0.trans n1
  have L1 := L0.keep n1
  clear n1 N0 L0
  obtain ⟨sb, hsb⟩ : ∃ s, w.heap.size = s := ⟨_, rfl⟩
  rw [hsb] at L1
  try rw [hsb]
  have a01 : World.cell? w1 ⟨sb, 0, none⟩ = some (.int .i64 a.x) := L1.A.cell 0
  have a11 : World.cell? w1 ⟨sb, 1, none⟩ = some (.int .i64 a.y) := L1.A.cell 1
  have a21 : World.cell? w1 ⟨sb, 2, none⟩ = some (.int .i64 a.z) := L1.A.cell 2
  have la1 := L1.A.lt
  have b01 : World.cell? w1 ⟨sb + 1, 0, none⟩ = some (.int .i64 b.x) := L1.B.cell 0
  have b11 : World.cell? w1 ⟨sb + 1, 1, none⟩ = some (.int .i64 b.y) := L1.B.cell 1
  have b21 : World.cell? w1 ⟨sb + 1, 2, none⟩ = some (.int .i64 b.z) := L1.B.cell 2
  have lb1 := L1.B.lt
  have x01 : World.cell? w1 ⟨sb + 1 + 1, 0, none⟩ = some (.int .i64 t) := L1.X.cell 0
  have x11 : World.cell? w1 ⟨sb + 1 + 1, 1, none⟩ = some (.int .i64 q) := L1.X.cell 1
  have lx1 := L1.X.lt
  go_wp2_with fail
  refine (cLitAt_bad HLE.out hr _).mono ?_
  rintro e w2 ⟨rfl, n2⟩
  have N2 := N1.trans n2
  have L2 := L1.keep n2
  clear n2 N1 L1 a01 a11 a21 b01 b11 b21 x01 x11 la1 lb1 lx1
  have a02 : World.cell? w2 ⟨sb, 0, none⟩ = some (.int .i64 a.x) := L2.A.cell 0
  have a12 : World.cell? w2 ⟨sb, 1, none⟩ = some (.int .i64 a.y) := L2.A.cell 1
  have a22 : World.cell? w2 ⟨sb, 2, none⟩ = some (.int .i64 a.z) := L2.A.cell 2
  have la2 := L2.A.lt
  have b02 : World.cell? w2 ⟨sb + 1, 0, none⟩ = some (.int .i64 b.x) := L2.B.cell 0
  have b12 : World.cell? w2 ⟨sb + 1, 1, none⟩ = some (.int .i64 b.y) := L2.B.cell 1
  have b22 : World.cell? w2 ⟨sb + 1, 2, none⟩ = some (.int .i64 b.z) := L2.B.cell 2
  have lb2 := L2.B.lt
  have x02 : World.cell? w2 ⟨sb + 1 + 1, 0, none⟩ = some (.int .i64 t) := L2.X.cell 0
  have x12 : World.cell? w2 ⟨sb + 1 + 1, 1, none⟩ = some (.int .i64 q) := L2.X.cell 1
  have lx2 := L2.X.lt
  go_wp2_with fail
  refine (cSunAt_bad HSE.out hr _).mono ?_
  rintro e w3 ⟨rfl, n3⟩
  have N3 := N2.trans n3
  have L3 := L2.keep n3
  clear n3 N2 L2 a02 a12 a22 b02 b12 b22 x02 x12 la2 lb2 lx2
  have a03 : World.cell? w3 ⟨sb, 0, none⟩ = some (.int .i64 a.x) := L3.A.cell 0
  have a13 : World.cell? w3 ⟨sb, 1, none⟩ = some (.int .i64 a.y) := L3.A.cell 1
  have a23 : World.cell? w3 ⟨sb, 2, none⟩ = some (.int .i64 a.z) := L3.A.cell 2
  have la3 := L3.A.lt
  have b03 : World.cell? w3 ⟨sb + 1, 0, none⟩ = some (.int .i64 b.x) := L3.B.cell 0
  have b13 : World.cell? w3 ⟨sb + 1, 1, none⟩ = some (.int .i64 b.y) := L3.B.cell 1
  have b23 : World.cell? w3 ⟨sb + 1, 2, none⟩ = some (.int .i64 b.z) := L3.B.cell 2
  have lb3 := L3.B.lt
  have x03 : World.cell? w3 ⟨sb + 1 + 1, 0, none⟩ = some (.int .i64 t) := L3.X.cell 0
  have x13 : World.cell? w3 ⟨sb + 1 + 1, 1, none⟩ = some (.int .i64 q) := L3.X.cell 1
  have lx3 := L3.X.lt
  go_wp2_with fail
  have V4 := Bx.mk w3 59 #[.int .i64 0, .int .i64 0, .int .i64 0]
  have n4 := (New.refl w3).alloc (.cells #[.int .i64 0, .int .i64 0, .int .i64 0] 59)
  have N4 := N3.trans n4
  have L4 := L3.keep n4
  obtain ⟨W4, hW4⟩ : ∃ W, w3.alloc (.cells #[.int .i64 0, .int .i64 0, .int .i64 0] 59) = W := ⟨_, rfl⟩
  obtain ⟨vb, hvb⟩ : ∃ s, w3.heap.size = s := ⟨_, rfl⟩
  rw [hW4] at V4 N4 L4
  rw [hvb] at V4
  try rw [hW4]
  try rw [hvb]
  clear n4 N3 L3 hW4 hvb a03 a13 a23 b03 b13 b23 x03 x13 la3 lb3 lx3
  refine (refVec_is HA.out _).mono ?_
  rintro e w5 ⟨rfl, n5⟩
  have N5 := N4.trans n5
  have L5 := L4.keep n5
  have V5 := V4.keep n5
  clear n5 N4 L4 V4
  have a05 : World.cell? w5 ⟨sb, 0, none⟩ = some (.int .i64 a.x) := L5.A.cell 0
  have a15 : World.cell? w5 ⟨sb, 1, none⟩ = some (.int .i64 a.y) := L5.A.cell 1
  have a25 : World.cell? w5 ⟨sb, 2, none⟩ = some (.int .i64 a.z) := L5.A.cell 2
  have la5 := L5.A.lt
  have b05 : World.cell? w5 ⟨sb + 1, 0, none⟩ = some (.int .i64 b.x) := L5.B.cell 0
  have b15 : World.cell? w5 ⟨sb + 1, 1, none⟩ = some (.int .i64 b.y) := L5.B.cell 1
  have b25 : World.cell? w5 ⟨sb + 1, 2, none⟩ = some (.int .i64 b.z) := L5.B.cell 2
  have lb5 := L5.B.lt
  have x05 : World.cell? w5 ⟨sb + 1 + 1, 0, none⟩ = some (.int .i64 t) := L5.X.cell 0
  have x15 : World.cell? w5 ⟨sb + 1 + 1, 1, none⟩ = some (.int .i64 q) := L5.X.cell 1
  have lx5 := L5.X.lt
  have v0 := V5.cell 0
  have v1 := V5.cell 1
  have v2 := V5.cell 2
  have lv := V5.lt
  simp only [List.getElem?_toArray, List.getElem?_cons_zero, List.getElem?_cons_succ] at v0 v1 v2
  go_wp2_with fail
  go_ret
  exact ⟨rfl, N5⟩
set_option maxRecDepth 100000 in
set_option maxHeartbeats 8000000 in
theorem light_B1U (a b : Ve) (t q : Int) (w : World) (ha : vecE a = 0) (r : Int) (hb : vecE b = r) (hr : r ≠ 0) (ht : inR q 0 1000000000000 = false) :
    Calls Try.prog 5 #[.agg #[.int .i64 a.x, .int .i64 a.y, .int .i64 a.z], .agg #[.int .i64 b.x, .int .i64 b.y, .int .i64 b.z], .agg #[.int .i64 t, .int .i64 q]] w fun e w' => e = .returned (.bool true) ∧ New w w' := by
  have N0 := (((New.refl w).alloc (.cells #[.int .i64 a.x, .int .i64 a.y, .int .i64 a.z] 59)).alloc (.cells #[.int .i64 b.x, .int .i64 b.y, .int .i64 b.z] 59)).alloc (.cells #[.int .i64 t, .int .i64 q] 60)
  have L0 : LBox w.heap.size a b t q _ := ⟨((Bx.mk w 59 #[.int .i64 a.x, .int .i64 a.y, .int .i64 a.z]).alloc (.cells #[.int .i64 b.x, .int .i64 b.y, .int .i64 b.z] 59)).alloc (.cells #[.int .i64 t, .int .i64 q] 60),
    (Bx.mk_at _ 59 #[.int .i64 b.x, .int .i64 b.y, .int .i64 b.z] (w.heap.size + 1) (by simp)).alloc _, Bx.mk_at _ 60 #[.int .i64 t, .int .i64 q] (w.heap.size + 1 + 1) (by simp)⟩
  obtain ⟨W0, hW0⟩ : ∃ W, (((w.alloc (.cells #[.int .i64 a.x, .int .i64 a.y, .int .i64 a.z] 59)).alloc (.cells #[.int .i64 b.x, .int .i64 b.y, .int .i64 b.z] 59)).alloc (.cells #[.int .i64 t, .int .i64 q] 60)) = W := ⟨_, rfl⟩
  rw [hW0] at N0 L0
  have HA := Lib.hid ha
  have HLE := Lib.hid (show litE a b t = r by simp [litE, firstE, ha, hb, hr])
  have HB := Lib.hid hb
  have HW := Lib.hid (show (0 : Int) = 0 from rfl)
  have br : (r == 0) = false := by simpa using hr
  have bn : (r != 0) = true := by simpa using hr
  have heq : ∀ W, (binOp .eql 59 (.agg #[.int .i64 0, .int .i64 0, .int .i64 0]) (.agg #[.int .i64 0, .int .i64 0, .int .i64 0])).run Try.prog W = .ok (.bool true) W := fun W => by rw [eql_vec0]; rfl
  have HSE := Lib.hid (show sunE a q = 2 by simp [sunE, firstE, ha, ht, errU])
  have HT := Lib.hid (show tick q = false from ht)
  clear ha hb ht
  go_enter Try.func5, Try.ntmps5
  go_wp2_with fail
  try rw [hW0]
  clear hW0
  refine (awake6_any _).mono ?_
  rintro e w1 ⟨rfl, n1⟩
  have N1 := N0.trans n1
  have L1 := L0.keep n1
  clear n1 N0 L0
  obtain ⟨sb, hsb⟩ : ∃ s, w.heap.size = s := ⟨_, rfl⟩
  rw [hsb] at L1
  try rw [hsb]
  have a01 : World.cell? w1 ⟨sb, 0, none⟩ = some (.int .i64 a.x) := L1.A.cell 0
  have a11 : World.cell? w1 ⟨sb, 1, none⟩ = some (.int .i64 a.y) := L1.A.cell 1
  have a21 : World.cell? w1 ⟨sb, 2, none⟩ = some (.int .i64 a.z) := L1.A.cell 2
  have la1 := L1.A.lt
  have b01 : World.cell? w1 ⟨sb + 1, 0, none⟩ = some (.int .i64 b.x) := L1.B.cell 0
  have b11 : World.cell? w1 ⟨sb + 1, 1, none⟩ = some (.int .i64 b.y) := L1.B.cell 1
  have b21 : World.cell? w1 ⟨sb + 1, 2, none⟩ = some (.int .i64 b.z) := L1.B.cell 2
  have lb1 := L1.B.lt
  have x01 : World.cell? w1 ⟨sb + 1 + 1, 0, none⟩ = some (.int .i64 t) := L1.X.cell 0
  have x11 : World.cell? w1 ⟨sb + 1 + 1, 1, none⟩ = some (.int .i64 q) := L1.X.cell 1
  have lx1 := L1.X.lt
  go_wp2_with fail
  refine (cLitAt_bad HLE.out hr _).mono ?_
  rintro e w2 ⟨rfl, n2⟩
  have N2 := N1.trans n2
  have L2 := L1.keep n2
  clear n2 N1 L1 a01 a11 a21 b01 b11 b21 x01 x11 la1 lb1 lx1
  have a02 : World.cell? w2 ⟨sb, 0, none⟩ = some (.int .i64 a.x) := L2.A.cell 0
  have a12 : World.cell? w2 ⟨sb, 1, none⟩ = some (.int .i64 a.y) := L2.A.cell 1
  have a22 : World.cell? w2 ⟨sb, 2, none⟩ = some (.int .i64 a.z) := L2.A.cell 2
  have la2 := L2.A.lt
  have b02 : World.cell? w2 ⟨sb + 1, 0, none⟩ = some (.int .i64 b.x) := L2.B.cell 0
  have b12 : World.cell? w2 ⟨sb + 1, 1, none⟩ = some (.int .i64 b.y) := L2.B.cell 1
  have b22 : World.cell? w2 ⟨sb + 1, 2, none⟩ = some (.int .i64 b.z) := L2.B.cell 2
  have lb2 := L2.B.lt
  have x02 : World.cell? w2 ⟨sb + 1 + 1, 0, none⟩ = some (.int .i64 t) := L2.X.cell 0
  have x12 : World.cell? w2 ⟨sb + 1 + 1, 1, none⟩ = some (.int .i64 q) := L2.X.cell 1
  have lx2 := L2.X.lt
  go_wp2_with fail
  refine (cSunAt_bad HSE.out (by decide) _).mono ?_
  rintro e w3 ⟨rfl, n3⟩
  have N3 := N2.trans n3
  have L3 := L2.keep n3
  clear n3 N2 L2 a02 a12 a22 b02 b12 b22 x02 x12 la2 lb2 lx2
  have a03 : World.cell? w3 ⟨sb, 0, none⟩ = some (.int .i64 a.x) := L3.A.cell 0
  have a13 : World.cell? w3 ⟨sb, 1, none⟩ = some (.int .i64 a.y) := L3.A.cell 1
  have a23 : World.cell? w3 ⟨sb, 2, none⟩ = some (.int .i64 a.z) := L3.A.cell 2
  have la3 := L3.A.lt
  have b03 : World.cell? w3 ⟨sb + 1, 0, none⟩ = some (.int .i64 b.x) := L3.B.cell 0
  have b13 : World.cell? w3 ⟨sb + 1, 1, none⟩ = some (.int .i64 b.y) := L3.B.cell 1
  have b23 : World.cell? w3 ⟨sb + 1, 2, none⟩ = some (.int .i64 b.z) := L3.B.cell 2
  have lb3 := L3.B.lt
  have x03 : World.cell? w3 ⟨sb + 1 + 1, 0, none⟩ = some (.int .i64 t) := L3.X.cell 0
  have x13 : World.cell? w3 ⟨sb + 1 + 1, 1, none⟩ = some (.int .i64 q) := L3.X.cell 1
  have lx3 := L3.X.lt
  go_wp2_with fail
  have V4 := Bx.mk w3 59 #[.int .i64 0, .int .i64 0, .int .i64 0]
  have n4 := (New.refl w3).alloc (.cells #[.int .i64 0, .int .i64 0, .int .i64 0] 59)
  have N4 := N3.trans n4
  have L4 := L3.keep n4
  obtain ⟨W4, hW4⟩ : ∃ W, w3.alloc (.cells #[.int .i64 0, .int .i64 0, .int .i64 0] 59) = W := ⟨_, rfl⟩
  obtain ⟨vb, hvb⟩ : ∃ s, w3.heap.size = s := ⟨_, rfl⟩
  rw [hW4] at V4 N4 L4
  rw [hvb] at V4
  try rw [hW4]
  try rw [hvb]
  clear n4 N3 L3 hW4 hvb a03 a13 a23 b03 b13 b23 x03 x13 la3 lb3 lx3
  refine (refVec_is HA.out _).mono ?_
  rintro e w5 ⟨rfl, n5⟩
  have N5 := N4.trans n5
  have L5 := L4.keep n5
  have V5 := V4.keep n5
  clear n5 N4 L4 V4
  have a05 : World.cell? w5 ⟨sb, 0, none⟩ = some (.int .i64 a.x) := L5.A.cell 0
  have a15 : World.cell? w5 ⟨sb, 1, none⟩ = some (.int .i64 a.y) := L5.A.cell 1
  have a25 : World.cell? w5 ⟨sb, 2, none⟩ = some (.int .i64 a.z) := L5.A.cell 2
  have la5 := L5.A.lt
  have b05 : World.cell? w5 ⟨sb + 1, 0, none⟩ = some (.int .i64 b.x) := L5.B.cell 0
  have b15 : World.cell? w5 ⟨sb + 1, 1, none⟩ = some (.int .i64 b.y) := L5.B.cell 1
  have b25 : World.cell? w5 ⟨sb + 1, 2, none⟩ = some (.int .i64 b.z) := L5.B.cell 2
  have lb5 := L5.B.lt
  have x05 : World.cell? w5 ⟨sb + 1 + 1, 0, none⟩ = some (.int .i64 t) := L5.X.cell 0
  have x15 : World.cell? w5 ⟨sb + 1 + 1, 1, none⟩ = some (.int .i64 q) := L5.X.cell 1
  have lx5 := L5.X.lt
  have v0 := V5.cell 0
  have v1 := V5.cell 1
  have v2 := V5.cell 2
  have lv := V5.lt
  simp only [List.getElem?_toArray, List.getElem?_cons_zero, List.getElem?_cons_succ] at v0 v1 v2
  go_wp2_with fail
  refine (refVec_is HB.out _).mono ?_
  rintro e w6 ⟨rfl, n6⟩
  have N6 := N5.trans n6
  have L6 := L5.keep n6
  have V6 := V5.keep n6
  clear n6 N5 L5 V5 v0 v1 v2 lv a05 a15 a25 b05 b15 b25 x05 x15 la5 lb5 lx5
  have a06 : World.cell? w6 ⟨sb, 0, none⟩ = some (.int .i64 a.x) := L6.A.cell 0
  have a16 : World.cell? w6 ⟨sb, 1, none⟩ = some (.int .i64 a.y) := L6.A.cell 1
  have a26 : World.cell? w6 ⟨sb, 2, none⟩ = some (.int .i64 a.z) := L6.A.cell 2
  have la6 := L6.A.lt
  have b06 : World.cell? w6 ⟨sb + 1, 0, none⟩ = some (.int .i64 b.x) := L6.B.cell 0
  have b16 : World.cell? w6 ⟨sb + 1, 1, none⟩ = some (.int .i64 b.y) := L6.B.cell 1
  have b26 : World.cell? w6 ⟨sb + 1, 2, none⟩ = some (.int .i64 b.z) := L6.B.cell 2
  have lb6 := L6.B.lt
  have x06 : World.cell? w6 ⟨sb + 1 + 1, 0, none⟩ = some (.int .i64 t) := L6.X.cell 0
  have x16 : World.cell? w6 ⟨sb + 1 + 1, 1, none⟩ = some (.int .i64 q) := L6.X.cell 1
  have lx6 := L6.X.lt
  have v0 := V6.cell 0
  have v1 := V6.cell 1
  have v2 := V6.cell 2
  have lv := V6.lt
  simp only [List.getElem?_toArray, List.getElem?_cons_zero, List.getElem?_cons_succ] at v0 v1 v2
  go_wp2_with (first | (go_at_call 19; refine (bWithin_any _ _ _ _).mono ?_; rintro e w' ⟨rfl, rfl⟩; rw [HW.out]) | (go_at_call 36; refine (bIsTick_any _ _).mono ?_; rintro e w' ⟨rfl, rfl⟩; rw [HT.out]))
  go_ret
  exact ⟨rfl, N6⟩
set_option maxRecDepth 100000 in
set_option maxHeartbeats 8000000 in
theorem light_B2U (a b : Ve) (t q : Int) (w : World) (ha : vecE a = 0) (hb : vecE b = 0) (hw : inR t 0 4000000 = false) (ht : inR q 0 1000000000000 = false) :
    Calls Try.prog 5 #[.agg #[.int .i64 a.x, .int .i64 a.y, .int .i64 a.z], .agg #[.int .i64 b.x, .int .i64 b.y, .int .i64 b.z], .agg #[.int .i64 t, .int .i64 q]] w fun e w' => e = .returned (.bool true) ∧ New w w' := by
  have N0 := (((New.refl w).alloc (.cells #[.int .i64 a.x, .int .i64 a.y, .int .i64 a.z] 59)).alloc (.cells #[.int .i64 b.x, .int .i64 b.y, .int .i64 b.z] 59)).alloc (.cells #[.int .i64 t, .int .i64 q] 60)
  have L0 : LBox w.heap.size a b t q _ := ⟨((Bx.mk w 59 #[.int .i64 a.x, .int .i64 a.y, .int .i64 a.z]).alloc (.cells #[.int .i64 b.x, .int .i64 b.y, .int .i64 b.z] 59)).alloc (.cells #[.int .i64 t, .int .i64 q] 60),
    (Bx.mk_at _ 59 #[.int .i64 b.x, .int .i64 b.y, .int .i64 b.z] (w.heap.size + 1) (by simp)).alloc _, Bx.mk_at _ 60 #[.int .i64 t, .int .i64 q] (w.heap.size + 1 + 1) (by simp)⟩
  obtain ⟨W0, hW0⟩ : ∃ W, (((w.alloc (.cells #[.int .i64 a.x, .int .i64 a.y, .int .i64 a.z] 59)).alloc (.cells #[.int .i64 b.x, .int .i64 b.y, .int .i64 b.z] 59)).alloc (.cells #[.int .i64 t, .int .i64 q] 60)) = W := ⟨_, rfl⟩
  rw [hW0] at N0 L0
  have HA := Lib.hid ha
  have HLE := Lib.hid (show litE a b t = 2 by simp [litE, firstE, ha, hb, hw, errU])
  have HB := Lib.hid hb
  have HW := Lib.hid hw
  have heq : ∀ W, (binOp .eql 59 (.agg #[.int .i64 0, .int .i64 0, .int .i64 0]) (.agg #[.int .i64 0, .int .i64 0, .int .i64 0])).run Try.prog W = .ok (.bool true) W := fun W => by rw [eql_vec0]; rfl
  have HSE := Lib.hid (show sunE a q = 2 by simp [sunE, firstE, ha, ht, errU])
  have HT := Lib.hid (show tick q = false from ht)
  clear ha hb hw ht
  go_enter Try.func5, Try.ntmps5
  go_wp2_with fail
  try rw [hW0]
  clear hW0
  refine (awake6_any _).mono ?_
  rintro e w1 ⟨rfl, n1⟩
  have N1 := N0.trans n1
  have L1 := L0.keep n1
  clear n1 N0 L0
  obtain ⟨sb, hsb⟩ : ∃ s, w.heap.size = s := ⟨_, rfl⟩
  rw [hsb] at L1
  try rw [hsb]
  have a01 : World.cell? w1 ⟨sb, 0, none⟩ = some (.int .i64 a.x) := L1.A.cell 0
  have a11 : World.cell? w1 ⟨sb, 1, none⟩ = some (.int .i64 a.y) := L1.A.cell 1
  have a21 : World.cell? w1 ⟨sb, 2, none⟩ = some (.int .i64 a.z) := L1.A.cell 2
  have la1 := L1.A.lt
  have b01 : World.cell? w1 ⟨sb + 1, 0, none⟩ = some (.int .i64 b.x) := L1.B.cell 0
  have b11 : World.cell? w1 ⟨sb + 1, 1, none⟩ = some (.int .i64 b.y) := L1.B.cell 1
  have b21 : World.cell? w1 ⟨sb + 1, 2, none⟩ = some (.int .i64 b.z) := L1.B.cell 2
  have lb1 := L1.B.lt
  have x01 : World.cell? w1 ⟨sb + 1 + 1, 0, none⟩ = some (.int .i64 t) := L1.X.cell 0
  have x11 : World.cell? w1 ⟨sb + 1 + 1, 1, none⟩ = some (.int .i64 q) := L1.X.cell 1
  have lx1 := L1.X.lt
  go_wp2_with fail
  refine (cLitAt_bad HLE.out (by decide) _).mono ?_
  rintro e w2 ⟨rfl, n2⟩
  have N2 := N1.trans n2
  have L2 := L1.keep n2
  clear n2 N1 L1 a01 a11 a21 b01 b11 b21 x01 x11 la1 lb1 lx1
  have a02 : World.cell? w2 ⟨sb, 0, none⟩ = some (.int .i64 a.x) := L2.A.cell 0
  have a12 : World.cell? w2 ⟨sb, 1, none⟩ = some (.int .i64 a.y) := L2.A.cell 1
  have a22 : World.cell? w2 ⟨sb, 2, none⟩ = some (.int .i64 a.z) := L2.A.cell 2
  have la2 := L2.A.lt
  have b02 : World.cell? w2 ⟨sb + 1, 0, none⟩ = some (.int .i64 b.x) := L2.B.cell 0
  have b12 : World.cell? w2 ⟨sb + 1, 1, none⟩ = some (.int .i64 b.y) := L2.B.cell 1
  have b22 : World.cell? w2 ⟨sb + 1, 2, none⟩ = some (.int .i64 b.z) := L2.B.cell 2
  have lb2 := L2.B.lt
  have x02 : World.cell? w2 ⟨sb + 1 + 1, 0, none⟩ = some (.int .i64 t) := L2.X.cell 0
  have x12 : World.cell? w2 ⟨sb + 1 + 1, 1, none⟩ = some (.int .i64 q) := L2.X.cell 1
  have lx2 := L2.X.lt
  go_wp2_with fail
  refine (cSunAt_bad HSE.out (by decide) _).mono ?_
  rintro e w3 ⟨rfl, n3⟩
  have N3 := N2.trans n3
  have L3 := L2.keep n3
  clear n3 N2 L2 a02 a12 a22 b02 b12 b22 x02 x12 la2 lb2 lx2
  have a03 : World.cell? w3 ⟨sb, 0, none⟩ = some (.int .i64 a.x) := L3.A.cell 0
  have a13 : World.cell? w3 ⟨sb, 1, none⟩ = some (.int .i64 a.y) := L3.A.cell 1
  have a23 : World.cell? w3 ⟨sb, 2, none⟩ = some (.int .i64 a.z) := L3.A.cell 2
  have la3 := L3.A.lt
  have b03 : World.cell? w3 ⟨sb + 1, 0, none⟩ = some (.int .i64 b.x) := L3.B.cell 0
  have b13 : World.cell? w3 ⟨sb + 1, 1, none⟩ = some (.int .i64 b.y) := L3.B.cell 1
  have b23 : World.cell? w3 ⟨sb + 1, 2, none⟩ = some (.int .i64 b.z) := L3.B.cell 2
  have lb3 := L3.B.lt
  have x03 : World.cell? w3 ⟨sb + 1 + 1, 0, none⟩ = some (.int .i64 t) := L3.X.cell 0
  have x13 : World.cell? w3 ⟨sb + 1 + 1, 1, none⟩ = some (.int .i64 q) := L3.X.cell 1
  have lx3 := L3.X.lt
  go_wp2_with fail
  have V4 := Bx.mk w3 59 #[.int .i64 0, .int .i64 0, .int .i64 0]
  have n4 := (New.refl w3).alloc (.cells #[.int .i64 0, .int .i64 0, .int .i64 0] 59)
  have N4 := N3.trans n4
  have L4 := L3.keep n4
  obtain ⟨W4, hW4⟩ : ∃ W, w3.alloc (.cells #[.int .i64 0, .int .i64 0, .int .i64 0] 59) = W := ⟨_, rfl⟩
  obtain ⟨vb, hvb⟩ : ∃ s, w3.heap.size = s := ⟨_, rfl⟩
  rw [hW4] at V4 N4 L4
  rw [hvb] at V4
  try rw [hW4]
  try rw [hvb]
  clear n4 N3 L3 hW4 hvb a03 a13 a23 b03 b13 b23 x03 x13 la3 lb3 lx3
  refine (refVec_is HA.out _).mono ?_
  rintro e w5 ⟨rfl, n5⟩
  have N5 := N4.trans n5
  have L5 := L4.keep n5
  have V5 := V4.keep n5
  clear n5 N4 L4 V4
  have a05 : World.cell? w5 ⟨sb, 0, none⟩ = some (.int .i64 a.x) := L5.A.cell 0
  have a15 : World.cell? w5 ⟨sb, 1, none⟩ = some (.int .i64 a.y) := L5.A.cell 1
  have a25 : World.cell? w5 ⟨sb, 2, none⟩ = some (.int .i64 a.z) := L5.A.cell 2
  have la5 := L5.A.lt
  have b05 : World.cell? w5 ⟨sb + 1, 0, none⟩ = some (.int .i64 b.x) := L5.B.cell 0
  have b15 : World.cell? w5 ⟨sb + 1, 1, none⟩ = some (.int .i64 b.y) := L5.B.cell 1
  have b25 : World.cell? w5 ⟨sb + 1, 2, none⟩ = some (.int .i64 b.z) := L5.B.cell 2
  have lb5 := L5.B.lt
  have x05 : World.cell? w5 ⟨sb + 1 + 1, 0, none⟩ = some (.int .i64 t) := L5.X.cell 0
  have x15 : World.cell? w5 ⟨sb + 1 + 1, 1, none⟩ = some (.int .i64 q) := L5.X.cell 1
  have lx5 := L5.X.lt
  have v0 := V5.cell 0
  have v1 := V5.cell 1
  have v2 := V5.cell 2
  have lv := V5.lt
  simp only [List.getElem?_toArray, List.getElem?_cons_zero, List.getElem?_cons_succ] at v0 v1 v2
  go_wp2_with fail
  refine (refVec_is HB.out _).mono ?_
  rintro e w6 ⟨rfl, n6⟩
  have N6 := N5.trans n6
  have L6 := L5.keep n6
  have V6 := V5.keep n6
  clear n6 N5 L5 V5 v0 v1 v2 lv a05 a15 a25 b05 b15 b25 x05 x15 la5 lb5 lx5
  have a06 : World.cell? w6 ⟨sb, 0, none⟩ = some (.int .i64 a.x) := L6.A.cell 0
  have a16 : World.cell? w6 ⟨sb, 1, none⟩ = some (.int .i64 a.y) := L6.A.cell 1
  have a26 : World.cell? w6 ⟨sb, 2, none⟩ = some (.int .i64 a.z) := L6.A.cell 2
  have la6 := L6.A.lt
  have b06 : World.cell? w6 ⟨sb + 1, 0, none⟩ = some (.int .i64 b.x) := L6.B.cell 0
  have b16 : World.cell? w6 ⟨sb + 1, 1, none⟩ = some (.int .i64 b.y) := L6.B.cell 1
  have b26 : World.cell? w6 ⟨sb + 1, 2, none⟩ = some (.int .i64 b.z) := L6.B.cell 2
  have lb6 := L6.B.lt
  have x06 : World.cell? w6 ⟨sb + 1 + 1, 0, none⟩ = some (.int .i64 t) := L6.X.cell 0
  have x16 : World.cell? w6 ⟨sb + 1 + 1, 1, none⟩ = some (.int .i64 q) := L6.X.cell 1
  have lx6 := L6.X.lt
  have v0 := V6.cell 0
  have v1 := V6.cell 1
  have v2 := V6.cell 2
  have lv := V6.lt
  simp only [List.getElem?_toArray, List.getElem?_cons_zero, List.getElem?_cons_succ] at v0 v1 v2
  go_wp2_with (first | (go_at_call 19; refine (bWithin_any _ _ _ _).mono ?_; rintro e w' ⟨rfl, rfl⟩; rw [HW.out]) | (go_at_call 36; refine (bIsTick_any _ _).mono ?_; rintro e w' ⟨rfl, rfl⟩; rw [HT.out]))
  go_ret
  exact ⟨rfl, N6⟩
set_option maxRecDepth 100000 in
set_option maxHeartbeats 8000000 in
theorem light_B1T (a b : Ve) (t q : Int) (w : World) (ha : vecE a = 0) (r : Int) (hb : vecE b = r) (hr : r ≠ 0) (u : Ve) (hu : sunS a (q % 4).toNat = u) (ht : inR q 0 1000000000000 = true) :
    Calls Try.prog 5 #[.agg #[.int .i64 a.x, .int .i64 a.y, .int .i64 a.z], .agg #[.int .i64 b.x, .int .i64 b.y, .int .i64 b.z], .agg #[.int .i64 t, .int .i64 q]] w fun e w' => e = .returned (.bool true) ∧ New w w' := by
  have N0 := (((New.refl w).alloc (.cells #[.int .i64 a.x, .int .i64 a.y, .int .i64 a.z] 59)).alloc (.cells #[.int .i64 b.x, .int .i64 b.y, .int .i64 b.z] 59)).alloc (.cells #[.int .i64 t, .int .i64 q] 60)
  have L0 : LBox w.heap.size a b t q _ := ⟨((Bx.mk w 59 #[.int .i64 a.x, .int .i64 a.y, .int .i64 a.z]).alloc (.cells #[.int .i64 b.x, .int .i64 b.y, .int .i64 b.z] 59)).alloc (.cells #[.int .i64 t, .int .i64 q] 60),
    (Bx.mk_at _ 59 #[.int .i64 b.x, .int .i64 b.y, .int .i64 b.z] (w.heap.size + 1) (by simp)).alloc _, Bx.mk_at _ 60 #[.int .i64 t, .int .i64 q] (w.heap.size + 1 + 1) (by simp)⟩
  obtain ⟨W0, hW0⟩ : ∃ W, (((w.alloc (.cells #[.int .i64 a.x, .int .i64 a.y, .int .i64 a.z] 59)).alloc (.cells #[.int .i64 b.x, .int .i64 b.y, .int .i64 b.z] 59)).alloc (.cells #[.int .i64 t, .int .i64 q] 60)) = W := ⟨_, rfl⟩
  rw [hW0] at N0 L0
  have HA := Lib.hid ha
  have HLE := Lib.hid (show litE a b t = r by simp [litE, firstE, ha, hb, hr])
  have HB := Lib.hid hb
  have HW := Lib.hid (show (0 : Int) = 0 from rfl)
  have br : (r == 0) = false := by simpa using hr
  have bn : (r != 0) = true := by simpa using hr
  have huu : ∀ W, (binOp .neq 59 (.agg #[.int .i64 u.x, .int .i64 u.y, .int .i64 u.z]) (.agg #[.int .i64 u.x, .int .i64 u.y, .int .i64 u.z])).run Try.prog W = .ok (.bool false) W := fun W => by rw [neq_vecG]; simp
  have HSE := Lib.hid (show sunE a q = 0 by simp [sunE, firstE, ha, ht, errU])
  have HT := Lib.hid (show tick q = true from ht)
  have HAV3 := Lib.hid (show (-1000 ≤ a.x ∧ a.x ≤ 1000) ∧ (-1000 ≤ a.y ∧ a.y ≤ 1000) ∧ (-1000 ≤ a.z ∧ a.z ≤ 1000) from ⟨(vecE_zero ha).1, (vecE_zero ha).2.1, (vecE_zero ha).2.2.1⟩)
  have hq := inR_iff.1 ht
  have HQ := Lib.hid hq
  have HU := Lib.hid hu
  clear ha hb ht
  go_enter Try.func5, Try.ntmps5
  go_wp2_with fail
  try rw [hW0]
  clear hW0
  refine (awake6_any _).mono ?_
  rintro e w1 ⟨rfl, n1⟩
  have N1 := N0.trans n1
  have L1 := L0.keep n1
  clear n1 N0 L0
  obtain ⟨sb, hsb⟩ : ∃ s, w.heap.size = s := ⟨_, rfl⟩
  rw [hsb] at L1
  try rw [hsb]
  have a01 : World.cell? w1 ⟨sb, 0, none⟩ = some (.int .i64 a.x) := L1.A.cell 0
  have a11 : World.cell? w1 ⟨sb, 1, none⟩ = some (.int .i64 a.y) := L1.A.cell 1
  have a21 : World.cell? w1 ⟨sb, 2, none⟩ = some (.int .i64 a.z) := L1.A.cell 2
  have la1 := L1.A.lt
  have b01 : World.cell? w1 ⟨sb + 1, 0, none⟩ = some (.int .i64 b.x) := L1.B.cell 0
  have b11 : World.cell? w1 ⟨sb + 1, 1, none⟩ = some (.int .i64 b.y) := L1.B.cell 1
  have b21 : World.cell? w1 ⟨sb + 1, 2, none⟩ = some (.int .i64 b.z) := L1.B.cell 2
  have lb1 := L1.B.lt
  have x01 : World.cell? w1 ⟨sb + 1 + 1, 0, none⟩ = some (.int .i64 t) := L1.X.cell 0
  have x11 : World.cell? w1 ⟨sb + 1 + 1, 1, none⟩ = some (.int .i64 q) := L1.X.cell 1
  have lx1 := L1.X.lt
  go_wp2_with fail
  refine (cLitAt_bad HLE.out hr _).mono ?_
  rintro e w2 ⟨rfl, n2⟩
  have N2 := N1.trans n2
  have L2 := L1.keep n2
  clear n2 N1 L1 a01 a11 a21 b01 b11 b21 x01 x11 la1 lb1 lx1
  have a02 : World.cell? w2 ⟨sb, 0, none⟩ = some (.int .i64 a.x) := L2.A.cell 0
  have a12 : World.cell? w2 ⟨sb, 1, none⟩ = some (.int .i64 a.y) := L2.A.cell 1
  have a22 : World.cell? w2 ⟨sb, 2, none⟩ = some (.int .i64 a.z) := L2.A.cell 2
  have la2 := L2.A.lt
  have b02 : World.cell? w2 ⟨sb + 1, 0, none⟩ = some (.int .i64 b.x) := L2.B.cell 0
  have b12 : World.cell? w2 ⟨sb + 1, 1, none⟩ = some (.int .i64 b.y) := L2.B.cell 1
  have b22 : World.cell? w2 ⟨sb + 1, 2, none⟩ = some (.int .i64 b.z) := L2.B.cell 2
  have lb2 := L2.B.lt
  have x02 : World.cell? w2 ⟨sb + 1 + 1, 0, none⟩ = some (.int .i64 t) := L2.X.cell 0
  have x12 : World.cell? w2 ⟨sb + 1 + 1, 1, none⟩ = some (.int .i64 q) := L2.X.cell 1
  have lx2 := L2.X.lt
  go_wp2_with fail
  refine (cSunAt_ok HSE.out hu _).mono ?_
  rintro e w3 ⟨rfl, n3⟩
  have N3 := N2.trans n3
  have L3 := L2.keep n3
  clear n3 N2 L2 a02 a12 a22 b02 b12 b22 x02 x12 la2 lb2 lx2
  have a03 : World.cell? w3 ⟨sb, 0, none⟩ = some (.int .i64 a.x) := L3.A.cell 0
  have a13 : World.cell? w3 ⟨sb, 1, none⟩ = some (.int .i64 a.y) := L3.A.cell 1
  have a23 : World.cell? w3 ⟨sb, 2, none⟩ = some (.int .i64 a.z) := L3.A.cell 2
  have la3 := L3.A.lt
  have b03 : World.cell? w3 ⟨sb + 1, 0, none⟩ = some (.int .i64 b.x) := L3.B.cell 0
  have b13 : World.cell? w3 ⟨sb + 1, 1, none⟩ = some (.int .i64 b.y) := L3.B.cell 1
  have b23 : World.cell? w3 ⟨sb + 1, 2, none⟩ = some (.int .i64 b.z) := L3.B.cell 2
  have lb3 := L3.B.lt
  have x03 : World.cell? w3 ⟨sb + 1 + 1, 0, none⟩ = some (.int .i64 t) := L3.X.cell 0
  have x13 : World.cell? w3 ⟨sb + 1 + 1, 1, none⟩ = some (.int .i64 q) := L3.X.cell 1
  have lx3 := L3.X.lt
  go_wp2_with fail
  have V4 := Bx.mk w3 59 #[.int .i64 u.x, .int .i64 u.y, .int .i64 u.z]
  have n4 := (New.refl w3).alloc (.cells #[.int .i64 u.x, .int .i64 u.y, .int .i64 u.z] 59)
  have N4 := N3.trans n4
  have L4 := L3.keep n4
  obtain ⟨W4, hW4⟩ : ∃ W, w3.alloc (.cells #[.int .i64 u.x, .int .i64 u.y, .int .i64 u.z] 59) = W := ⟨_, rfl⟩
  obtain ⟨vb, hvb⟩ : ∃ s, w3.heap.size = s := ⟨_, rfl⟩
  rw [hW4] at V4 N4 L4
  rw [hvb] at V4
  try rw [hW4]
  try rw [hvb]
  clear n4 N3 L3 hW4 hvb a03 a13 a23 b03 b13 b23 x03 x13 la3 lb3 lx3
  refine (refVec_is HA.out _).mono ?_
  rintro e w5 ⟨rfl, n5⟩
  have N5 := N4.trans n5
  have L5 := L4.keep n5
  have V5 := V4.keep n5
  clear n5 N4 L4 V4
  have a05 : World.cell? w5 ⟨sb, 0, none⟩ = some (.int .i64 a.x) := L5.A.cell 0
  have a15 : World.cell? w5 ⟨sb, 1, none⟩ = some (.int .i64 a.y) := L5.A.cell 1
  have a25 : World.cell? w5 ⟨sb, 2, none⟩ = some (.int .i64 a.z) := L5.A.cell 2
  have la5 := L5.A.lt
  have b05 : World.cell? w5 ⟨sb + 1, 0, none⟩ = some (.int .i64 b.x) := L5.B.cell 0
  have b15 : World.cell? w5 ⟨sb + 1, 1, none⟩ = some (.int .i64 b.y) := L5.B.cell 1
  have b25 : World.cell? w5 ⟨sb + 1, 2, none⟩ = some (.int .i64 b.z) := L5.B.cell 2
  have lb5 := L5.B.lt
  have x05 : World.cell? w5 ⟨sb + 1 + 1, 0, none⟩ = some (.int .i64 t) := L5.X.cell 0
  have x15 : World.cell? w5 ⟨sb + 1 + 1, 1, none⟩ = some (.int .i64 q) := L5.X.cell 1
  have lx5 := L5.X.lt
  have v0 := V5.cell 0
  have v1 := V5.cell 1
  have v2 := V5.cell 2
  have lv := V5.lt
  simp only [List.getElem?_toArray, List.getElem?_cons_zero, List.getElem?_cons_succ] at v0 v1 v2
  go_wp2_with fail
  refine (refVec_is HB.out _).mono ?_
  rintro e w6 ⟨rfl, n6⟩
  have N6 := N5.trans n6
  have L6 := L5.keep n6
  have V6 := V5.keep n6
  clear n6 N5 L5 V5 v0 v1 v2 lv a05 a15 a25 b05 b15 b25 x05 x15 la5 lb5 lx5
  have a06 : World.cell? w6 ⟨sb, 0, none⟩ = some (.int .i64 a.x) := L6.A.cell 0
  have a16 : World.cell? w6 ⟨sb, 1, none⟩ = some (.int .i64 a.y) := L6.A.cell 1
  have a26 : World.cell? w6 ⟨sb, 2, none⟩ = some (.int .i64 a.z) := L6.A.cell 2
  have la6 := L6.A.lt
  have b06 : World.cell? w6 ⟨sb + 1, 0, none⟩ = some (.int .i64 b.x) := L6.B.cell 0
  have b16 : World.cell? w6 ⟨sb + 1, 1, none⟩ = some (.int .i64 b.y) := L6.B.cell 1
  have b26 : World.cell? w6 ⟨sb + 1, 2, none⟩ = some (.int .i64 b.z) := L6.B.cell 2
  have lb6 := L6.B.lt
  have x06 : World.cell? w6 ⟨sb + 1 + 1, 0, none⟩ = some (.int .i64 t) := L6.X.cell 0
  have x16 : World.cell? w6 ⟨sb + 1 + 1, 1, none⟩ = some (.int .i64 q) := L6.X.cell 1
  have lx6 := L6.X.lt
  have v0 := V6.cell 0
  have v1 := V6.cell 1
  have v2 := V6.cell 2
  have lv := V6.lt
  simp only [List.getElem?_toArray, List.getElem?_cons_zero, List.getElem?_cons_succ] at v0 v1 v2
  go_wp2_with (first | (go_at_call 19; refine (bWithin_any _ _ _ _).mono ?_; rintro e w' ⟨rfl, rfl⟩; rw [HW.out]) | (go_at_call 36; refine (bIsTick_any _ _).mono ?_; rintro e w' ⟨rfl, rfl⟩; rw [HT.out]))
  (refine wp_region_new (by kernel_rfl) (by kernel_rfl) ?_; (repeat (go_big_quiet_step ((first | (go_at_call 37; with_reducible exact quiet_new (refSun_is HU.out _ HAV3.out HQ.out)))))); refine wpQuiet_nil ?_)
  intro w7 n7
  have N7 := N6.trans n7
  have L7 := L6.keep n7
  have V7 := V6.keep n7
  clear n7 N6 L6 V6 v0 v1 v2 lv a06 a16 a26 b06 b16 b26 x06 x16 la6 lb6 lx6
  have a07 : World.cell? w7 ⟨sb, 0, none⟩ = some (.int .i64 a.x) := L7.A.cell 0
  have a17 : World.cell? w7 ⟨sb, 1, none⟩ = some (.int .i64 a.y) := L7.A.cell 1
  have a27 : World.cell? w7 ⟨sb, 2, none⟩ = some (.int .i64 a.z) := L7.A.cell 2
  have la7 := L7.A.lt
  have b07 : World.cell? w7 ⟨sb + 1, 0, none⟩ = some (.int .i64 b.x) := L7.B.cell 0
  have b17 : World.cell? w7 ⟨sb + 1, 1, none⟩ = some (.int .i64 b.y) := L7.B.cell 1
  have b27 : World.cell? w7 ⟨sb + 1, 2, none⟩ = some (.int .i64 b.z) := L7.B.cell 2
  have lb7 := L7.B.lt
  have x07 : World.cell? w7 ⟨sb + 1 + 1, 0, none⟩ = some (.int .i64 t) := L7.X.cell 0
  have x17 : World.cell? w7 ⟨sb + 1 + 1, 1, none⟩ = some (.int .i64 q) := L7.X.cell 1
  have lx7 := L7.X.lt
  have v0 := V7.cell 0
  have v1 := V7.cell 1
  have v2 := V7.cell 2
  have lv := V7.lt
  simp only [List.getElem?_toArray, List.getElem?_cons_zero, List.getElem?_cons_succ] at v0 v1 v2
  go_wp2_with fail
  go_ret
  exact ⟨rfl, N7⟩
set_option maxRecDepth 100000 in
set_option maxHeartbeats 8000000 in
theorem light_B2T (a b : Ve) (t q : Int) (w : World) (ha : vecE a = 0) (hb : vecE b = 0) (hw : inR t 0 4000000 = false) (u : Ve) (hu : sunS a (q % 4).toNat = u) (ht : inR q 0 1000000000000 = true) :
    Calls Try.prog 5 #[.agg #[.int .i64 a.x, .int .i64 a.y, .int .i64 a.z], .agg #[.int .i64 b.x, .int .i64 b.y, .int .i64 b.z], .agg #[.int .i64 t, .int .i64 q]] w fun e w' => e = .returned (.bool true) ∧ New w w' := by
  have N0 := (((New.refl w).alloc (.cells #[.int .i64 a.x, .int .i64 a.y, .int .i64 a.z] 59)).alloc (.cells #[.int .i64 b.x, .int .i64 b.y, .int .i64 b.z] 59)).alloc (.cells #[.int .i64 t, .int .i64 q] 60)
  have L0 : LBox w.heap.size a b t q _ := ⟨((Bx.mk w 59 #[.int .i64 a.x, .int .i64 a.y, .int .i64 a.z]).alloc (.cells #[.int .i64 b.x, .int .i64 b.y, .int .i64 b.z] 59)).alloc (.cells #[.int .i64 t, .int .i64 q] 60),
    (Bx.mk_at _ 59 #[.int .i64 b.x, .int .i64 b.y, .int .i64 b.z] (w.heap.size + 1) (by simp)).alloc _, Bx.mk_at _ 60 #[.int .i64 t, .int .i64 q] (w.heap.size + 1 + 1) (by simp)⟩
  obtain ⟨W0, hW0⟩ : ∃ W, (((w.alloc (.cells #[.int .i64 a.x, .int .i64 a.y, .int .i64 a.z] 59)).alloc (.cells #[.int .i64 b.x, .int .i64 b.y, .int .i64 b.z] 59)).alloc (.cells #[.int .i64 t, .int .i64 q] 60)) = W := ⟨_, rfl⟩
  rw [hW0] at N0 L0
  have HA := Lib.hid ha
  have HLE := Lib.hid (show litE a b t = 2 by simp [litE, firstE, ha, hb, hw, errU])
  have HB := Lib.hid hb
  have HW := Lib.hid hw
  have huu : ∀ W, (binOp .neq 59 (.agg #[.int .i64 u.x, .int .i64 u.y, .int .i64 u.z]) (.agg #[.int .i64 u.x, .int .i64 u.y, .int .i64 u.z])).run Try.prog W = .ok (.bool false) W := fun W => by rw [neq_vecG]; simp
  have HSE := Lib.hid (show sunE a q = 0 by simp [sunE, firstE, ha, ht, errU])
  have HT := Lib.hid (show tick q = true from ht)
  have HAV3 := Lib.hid (show (-1000 ≤ a.x ∧ a.x ≤ 1000) ∧ (-1000 ≤ a.y ∧ a.y ≤ 1000) ∧ (-1000 ≤ a.z ∧ a.z ≤ 1000) from ⟨(vecE_zero ha).1, (vecE_zero ha).2.1, (vecE_zero ha).2.2.1⟩)
  have hq := inR_iff.1 ht
  have HQ := Lib.hid hq
  have HU := Lib.hid hu
  clear ha hb hw ht
  go_enter Try.func5, Try.ntmps5
  go_wp2_with fail
  try rw [hW0]
  clear hW0
  refine (awake6_any _).mono ?_
  rintro e w1 ⟨rfl, n1⟩
  have N1 := N0.trans n1
  have L1 := L0.keep n1
  clear n1 N0 L0
  obtain ⟨sb, hsb⟩ : ∃ s, w.heap.size = s := ⟨_, rfl⟩
  rw [hsb] at L1
  try rw [hsb]
  have a01 : World.cell? w1 ⟨sb, 0, none⟩ = some (.int .i64 a.x) := L1.A.cell 0
  have a11 : World.cell? w1 ⟨sb, 1, none⟩ = some (.int .i64 a.y) := L1.A.cell 1
  have a21 : World.cell? w1 ⟨sb, 2, none⟩ = some (.int .i64 a.z) := L1.A.cell 2
  have la1 := L1.A.lt
  have b01 : World.cell? w1 ⟨sb + 1, 0, none⟩ = some (.int .i64 b.x) := L1.B.cell 0
  have b11 : World.cell? w1 ⟨sb + 1, 1, none⟩ = some (.int .i64 b.y) := L1.B.cell 1
  have b21 : World.cell? w1 ⟨sb + 1, 2, none⟩ = some (.int .i64 b.z) := L1.B.cell 2
  have lb1 := L1.B.lt
  have x01 : World.cell? w1 ⟨sb + 1 + 1, 0, none⟩ = some (.int .i64 t) := L1.X.cell 0
  have x11 : World.cell? w1 ⟨sb + 1 + 1, 1, none⟩ = some (.int .i64 q) := L1.X.cell 1
  have lx1 := L1.X.lt
  go_wp2_with fail
  refine (cLitAt_bad HLE.out (by decide) _).mono ?_
  rintro e w2 ⟨rfl, n2⟩
  have N2 := N1.trans n2
  have L2 := L1.keep n2
  clear n2 N1 L1 a01 a11 a21 b01 b11 b21 x01 x11 la1 lb1 lx1
  have a02 : World.cell? w2 ⟨sb, 0, none⟩ = some (.int .i64 a.x) := L2.A.cell 0
  have a12 : World.cell? w2 ⟨sb, 1, none⟩ = some (.int .i64 a.y) := L2.A.cell 1
  have a22 : World.cell? w2 ⟨sb, 2, none⟩ = some (.int .i64 a.z) := L2.A.cell 2
  have la2 := L2.A.lt
  have b02 : World.cell? w2 ⟨sb + 1, 0, none⟩ = some (.int .i64 b.x) := L2.B.cell 0
  have b12 : World.cell? w2 ⟨sb + 1, 1, none⟩ = some (.int .i64 b.y) := L2.B.cell 1
  have b22 : World.cell? w2 ⟨sb + 1, 2, none⟩ = some (.int .i64 b.z) := L2.B.cell 2
  have lb2 := L2.B.lt
  have x02 : World.cell? w2 ⟨sb + 1 + 1, 0, none⟩ = some (.int .i64 t) := L2.X.cell 0
  have x12 : World.cell? w2 ⟨sb + 1 + 1, 1, none⟩ = some (.int .i64 q) := L2.X.cell 1
  have lx2 := L2.X.lt
  go_wp2_with fail
  refine (cSunAt_ok HSE.out hu _).mono ?_
  rintro e w3 ⟨rfl, n3⟩
  have N3 := N2.trans n3
  have L3 := L2.keep n3
  clear n3 N2 L2 a02 a12 a22 b02 b12 b22 x02 x12 la2 lb2 lx2
  have a03 : World.cell? w3 ⟨sb, 0, none⟩ = some (.int .i64 a.x) := L3.A.cell 0
  have a13 : World.cell? w3 ⟨sb, 1, none⟩ = some (.int .i64 a.y) := L3.A.cell 1
  have a23 : World.cell? w3 ⟨sb, 2, none⟩ = some (.int .i64 a.z) := L3.A.cell 2
  have la3 := L3.A.lt
  have b03 : World.cell? w3 ⟨sb + 1, 0, none⟩ = some (.int .i64 b.x) := L3.B.cell 0
  have b13 : World.cell? w3 ⟨sb + 1, 1, none⟩ = some (.int .i64 b.y) := L3.B.cell 1
  have b23 : World.cell? w3 ⟨sb + 1, 2, none⟩ = some (.int .i64 b.z) := L3.B.cell 2
  have lb3 := L3.B.lt
  have x03 : World.cell? w3 ⟨sb + 1 + 1, 0, none⟩ = some (.int .i64 t) := L3.X.cell 0
  have x13 : World.cell? w3 ⟨sb + 1 + 1, 1, none⟩ = some (.int .i64 q) := L3.X.cell 1
  have lx3 := L3.X.lt
  go_wp2_with fail
  have V4 := Bx.mk w3 59 #[.int .i64 u.x, .int .i64 u.y, .int .i64 u.z]
  have n4 := (New.refl w3).alloc (.cells #[.int .i64 u.x, .int .i64 u.y, .int .i64 u.z] 59)
  have N4 := N3.trans n4
  have L4 := L3.keep n4
  obtain ⟨W4, hW4⟩ : ∃ W, w3.alloc (.cells #[.int .i64 u.x, .int .i64 u.y, .int .i64 u.z] 59) = W := ⟨_, rfl⟩
  obtain ⟨vb, hvb⟩ : ∃ s, w3.heap.size = s := ⟨_, rfl⟩
  rw [hW4] at V4 N4 L4
  rw [hvb] at V4
  try rw [hW4]
  try rw [hvb]
  clear n4 N3 L3 hW4 hvb a03 a13 a23 b03 b13 b23 x03 x13 la3 lb3 lx3
  refine (refVec_is HA.out _).mono ?_
  rintro e w5 ⟨rfl, n5⟩
  have N5 := N4.trans n5
  have L5 := L4.keep n5
  have V5 := V4.keep n5
  clear n5 N4 L4 V4
  have a05 : World.cell? w5 ⟨sb, 0, none⟩ = some (.int .i64 a.x) := L5.A.cell 0
  have a15 : World.cell? w5 ⟨sb, 1, none⟩ = some (.int .i64 a.y) := L5.A.cell 1
  have a25 : World.cell? w5 ⟨sb, 2, none⟩ = some (.int .i64 a.z) := L5.A.cell 2
  have la5 := L5.A.lt
  have b05 : World.cell? w5 ⟨sb + 1, 0, none⟩ = some (.int .i64 b.x) := L5.B.cell 0
  have b15 : World.cell? w5 ⟨sb + 1, 1, none⟩ = some (.int .i64 b.y) := L5.B.cell 1
  have b25 : World.cell? w5 ⟨sb + 1, 2, none⟩ = some (.int .i64 b.z) := L5.B.cell 2
  have lb5 := L5.B.lt
  have x05 : World.cell? w5 ⟨sb + 1 + 1, 0, none⟩ = some (.int .i64 t) := L5.X.cell 0
  have x15 : World.cell? w5 ⟨sb + 1 + 1, 1, none⟩ = some (.int .i64 q) := L5.X.cell 1
  have lx5 := L5.X.lt
  have v0 := V5.cell 0
  have v1 := V5.cell 1
  have v2 := V5.cell 2
  have lv := V5.lt
  simp only [List.getElem?_toArray, List.getElem?_cons_zero, List.getElem?_cons_succ] at v0 v1 v2
  go_wp2_with fail
  refine (refVec_is HB.out _).mono ?_
  rintro e w6 ⟨rfl, n6⟩
  have N6 := N5.trans n6
  have L6 := L5.keep n6
  have V6 := V5.keep n6
  clear n6 N5 L5 V5 v0 v1 v2 lv a05 a15 a25 b05 b15 b25 x05 x15 la5 lb5 lx5
  have a06 : World.cell? w6 ⟨sb, 0, none⟩ = some (.int .i64 a.x) := L6.A.cell 0
  have a16 : World.cell? w6 ⟨sb, 1, none⟩ = some (.int .i64 a.y) := L6.A.cell 1
  have a26 : World.cell? w6 ⟨sb, 2, none⟩ = some (.int .i64 a.z) := L6.A.cell 2
  have la6 := L6.A.lt
  have b06 : World.cell? w6 ⟨sb + 1, 0, none⟩ = some (.int .i64 b.x) := L6.B.cell 0
  have b16 : World.cell? w6 ⟨sb + 1, 1, none⟩ = some (.int .i64 b.y) := L6.B.cell 1
  have b26 : World.cell? w6 ⟨sb + 1, 2, none⟩ = some (.int .i64 b.z) := L6.B.cell 2
  have lb6 := L6.B.lt
  have x06 : World.cell? w6 ⟨sb + 1 + 1, 0, none⟩ = some (.int .i64 t) := L6.X.cell 0
  have x16 : World.cell? w6 ⟨sb + 1 + 1, 1, none⟩ = some (.int .i64 q) := L6.X.cell 1
  have lx6 := L6.X.lt
  have v0 := V6.cell 0
  have v1 := V6.cell 1
  have v2 := V6.cell 2
  have lv := V6.lt
  simp only [List.getElem?_toArray, List.getElem?_cons_zero, List.getElem?_cons_succ] at v0 v1 v2
  go_wp2_with (first | (go_at_call 19; refine (bWithin_any _ _ _ _).mono ?_; rintro e w' ⟨rfl, rfl⟩; rw [HW.out]) | (go_at_call 36; refine (bIsTick_any _ _).mono ?_; rintro e w' ⟨rfl, rfl⟩; rw [HT.out]))
  (refine wp_region_new (by kernel_rfl) (by kernel_rfl) ?_; (repeat (go_big_quiet_step ((first | (go_at_call 37; with_reducible exact quiet_new (refSun_is HU.out _ HAV3.out HQ.out)))))); refine wpQuiet_nil ?_)
  intro w7 n7
  have N7 := N6.trans n7
  have L7 := L6.keep n7
  have V7 := V6.keep n7
  clear n7 N6 L6 V6 v0 v1 v2 lv a06 a16 a26 b06 b16 b26 x06 x16 la6 lb6 lx6
  have a07 : World.cell? w7 ⟨sb, 0, none⟩ = some (.int .i64 a.x) := L7.A.cell 0
  have a17 : World.cell? w7 ⟨sb, 1, none⟩ = some (.int .i64 a.y) := L7.A.cell 1
  have a27 : World.cell? w7 ⟨sb, 2, none⟩ = some (.int .i64 a.z) := L7.A.cell 2
  have la7 := L7.A.lt
  have b07 : World.cell? w7 ⟨sb + 1, 0, none⟩ = some (.int .i64 b.x) := L7.B.cell 0
  have b17 : World.cell? w7 ⟨sb + 1, 1, none⟩ = some (.int .i64 b.y) := L7.B.cell 1
  have b27 : World.cell? w7 ⟨sb + 1, 2, none⟩ = some (.int .i64 b.z) := L7.B.cell 2
  have lb7 := L7.B.lt
  have x07 : World.cell? w7 ⟨sb + 1 + 1, 0, none⟩ = some (.int .i64 t) := L7.X.cell 0
  have x17 : World.cell? w7 ⟨sb + 1 + 1, 1, none⟩ = some (.int .i64 q) := L7.X.cell 1
  have lx7 := L7.X.lt
  have v0 := V7.cell 0
  have v1 := V7.cell 1
  have v2 := V7.cell 2
  have lv := V7.lt
  simp only [List.getElem?_toArray, List.getElem?_cons_zero, List.getElem?_cons_succ] at v0 v1 v2
  go_wp2_with fail
  go_ret
  exact ⟨rfl, N7⟩
set_option maxRecDepth 100000 in
set_option maxHeartbeats 8000000 in
theorem light_B3U (a b : Ve) (t q : Int) (w : World) (ha : vecE a = 0) (p : Int) (hb : vecE b = 0) (hw : inR t 0 4000000 = true) (hp : litS a b t = p) (ht : inR q 0 1000000000000 = false) :
    Calls Try.prog 5 #[.agg #[.int .i64 a.x, .int .i64 a.y, .int .i64 a.z], .agg #[.int .i64 b.x, .int .i64 b.y, .int .i64 b.z], .agg #[.int .i64 t, .int .i64 q]] w fun e w' => e = .returned (.bool true) ∧ New w w' := by
  have N0 := (((New.refl w).alloc (.cells #[.int .i64 a.x, .int .i64 a.y, .int .i64 a.z] 59)).alloc (.cells #[.int .i64 b.x, .int .i64 b.y, .int .i64 b.z] 59)).alloc (.cells #[.int .i64 t, .int .i64 q] 60)
  have L0 : LBox w.heap.size a b t q _ := ⟨((Bx.mk w 59 #[.int .i64 a.x, .int .i64 a.y, .int .i64 a.z]).alloc (.cells #[.int .i64 b.x, .int .i64 b.y, .int .i64 b.z] 59)).alloc (.cells #[.int .i64 t, .int .i64 q] 60),
    (Bx.mk_at _ 59 #[.int .i64 b.x, .int .i64 b.y, .int .i64 b.z] (w.heap.size + 1) (by simp)).alloc _, Bx.mk_at _ 60 #[.int .i64 t, .int .i64 q] (w.heap.size + 1 + 1) (by simp)⟩
  obtain ⟨W0, hW0⟩ : ∃ W, (((w.alloc (.cells #[.int .i64 a.x, .int .i64 a.y, .int .i64 a.z] 59)).alloc (.cells #[.int .i64 b.x, .int .i64 b.y, .int .i64 b.z] 59)).alloc (.cells #[.int .i64 t, .int .i64 q] 60)) = W := ⟨_, rfl⟩
  rw [hW0] at N0 L0
  have HA := Lib.hid ha
  have HLE := Lib.hid (show litE a b t = 0 by simp [litE, firstE, ha, hb, hw, errU])
  have HB := Lib.hid hb
  have HW := Lib.hid hw
  have HPV := Lib.hid hp
  have HAV3 := Lib.hid (show (-1000 ≤ a.x ∧ a.x ≤ 1000) ∧ (-1000 ≤ a.y ∧ a.y ≤ 1000) ∧ (-1000 ≤ a.z ∧ a.z ≤ 1000) from ⟨(vecE_zero ha).1, (vecE_zero ha).2.1, (vecE_zero ha).2.2.1⟩)
  have HBV3 := Lib.hid (show (-1000 ≤ b.x ∧ b.x ≤ 1000) ∧ (-1000 ≤ b.y ∧ b.y ≤ 1000) ∧ (-1000 ≤ b.z ∧ b.z ≤ 1000) from ⟨(vecE_zero hb).1, (vecE_zero hb).2.1, (vecE_zero hb).2.2.1⟩)
  have htt := inR_iff.1 hw
  have HTT := Lib.hid htt
  have heq : ∀ W, (binOp .eql 59 (.agg #[.int .i64 0, .int .i64 0, .int .i64 0]) (.agg #[.int .i64 0, .int .i64 0, .int .i64 0])).run Try.prog W = .ok (.bool true) W := fun W => by rw [eql_vec0]; rfl
  have HSE := Lib.hid (show sunE a q = 2 by simp [sunE, firstE, ha, ht, errU])
  have HT := Lib.hid (show tick q = false from ht)
  clear ha hb hw ht
  go_enter Try.func5, Try.ntmps5
  go_wp2_with fail
  try rw [hW0]
  clear hW0
  refine (awake6_any _).mono ?_
  rintro e w1 ⟨rfl, n1⟩
  have N1 := N0.trans n1
  have L1 := L0.keep n1
  clear n1 N0 L0
  obtain ⟨sb, hsb⟩ : ∃ s, w.heap.size = s := ⟨_, rfl⟩
  rw [hsb] at L1
  try rw [hsb]
  have a01 : World.cell? w1 ⟨sb, 0, none⟩ = some (.int .i64 a.x) := L1.A.cell 0
  have a11 : World.cell? w1 ⟨sb, 1, none⟩ = some (.int .i64 a.y) := L1.A.cell 1
  have a21 : World.cell? w1 ⟨sb, 2, none⟩ = some (.int .i64 a.z) := L1.A.cell 2
  have la1 := L1.A.lt
  have b01 : World.cell? w1 ⟨sb + 1, 0, none⟩ = some (.int .i64 b.x) := L1.B.cell 0
  have b11 : World.cell? w1 ⟨sb + 1, 1, none⟩ = some (.int .i64 b.y) := L1.B.cell 1
  have b21 : World.cell? w1 ⟨sb + 1, 2, none⟩ = some (.int .i64 b.z) := L1.B.cell 2
  have lb1 := L1.B.lt
  have x01 : World.cell? w1 ⟨sb + 1 + 1, 0, none⟩ = some (.int .i64 t) := L1.X.cell 0
  have x11 : World.cell? w1 ⟨sb + 1 + 1, 1, none⟩ = some (.int .i64 q) := L1.X.cell 1
  have lx1 := L1.X.lt
  go_wp2_with fail
  refine (cLitAt_ok HLE.out hp _).mono ?_
  rintro e w2 ⟨rfl, n2⟩
  have N2 := N1.trans n2
  have L2 := L1.keep n2
  clear n2 N1 L1 a01 a11 a21 b01 b11 b21 x01 x11 la1 lb1 lx1
  have a02 : World.cell? w2 ⟨sb, 0, none⟩ = some (.int .i64 a.x) := L2.A.cell 0
  have a12 : World.cell? w2 ⟨sb, 1, none⟩ = some (.int .i64 a.y) := L2.A.cell 1
  have a22 : World.cell? w2 ⟨sb, 2, none⟩ = some (.int .i64 a.z) := L2.A.cell 2
  have la2 := L2.A.lt
  have b02 : World.cell? w2 ⟨sb + 1, 0, none⟩ = some (.int .i64 b.x) := L2.B.cell 0
  have b12 : World.cell? w2 ⟨sb + 1, 1, none⟩ = some (.int .i64 b.y) := L2.B.cell 1
  have b22 : World.cell? w2 ⟨sb + 1, 2, none⟩ = some (.int .i64 b.z) := L2.B.cell 2
  have lb2 := L2.B.lt
  have x02 : World.cell? w2 ⟨sb + 1 + 1, 0, none⟩ = some (.int .i64 t) := L2.X.cell 0
  have x12 : World.cell? w2 ⟨sb + 1 + 1, 1, none⟩ = some (.int .i64 q) := L2.X.cell 1
  have lx2 := L2.X.lt
  go_wp2_with fail
  refine (cSunAt_bad HSE.out (by decide) _).mono ?_
  rintro e w3 ⟨rfl, n3⟩
  have N3 := N2.trans n3
  have L3 := L2.keep n3
  clear n3 N2 L2 a02 a12 a22 b02 b12 b22 x02 x12 la2 lb2 lx2
  have a03 : World.cell? w3 ⟨sb, 0, none⟩ = some (.int .i64 a.x) := L3.A.cell 0
  have a13 : World.cell? w3 ⟨sb, 1, none⟩ = some (.int .i64 a.y) := L3.A.cell 1
  have a23 : World.cell? w3 ⟨sb, 2, none⟩ = some (.int .i64 a.z) := L3.A.cell 2
  have la3 := L3.A.lt
  have b03 : World.cell? w3 ⟨sb + 1, 0, none⟩ = some (.int .i64 b.x) := L3.B.cell 0
  have b13 : World.cell? w3 ⟨sb + 1, 1, none⟩ = some (.int .i64 b.y) := L3.B.cell 1
  have b23 : World.cell? w3 ⟨sb + 1, 2, none⟩ = some (.int .i64 b.z) := L3.B.cell 2
  have lb3 := L3.B.lt
  have x03 : World.cell? w3 ⟨sb + 1 + 1, 0, none⟩ = some (.int .i64 t) := L3.X.cell 0
  have x13 : World.cell? w3 ⟨sb + 1 + 1, 1, none⟩ = some (.int .i64 q) := L3.X.cell 1
  have lx3 := L3.X.lt
  go_wp2_with fail
  have V4 := Bx.mk w3 59 #[.int .i64 0, .int .i64 0, .int .i64 0]
  have n4 := (New.refl w3).alloc (.cells #[.int .i64 0, .int .i64 0, .int .i64 0] 59)
  have N4 := N3.trans n4
  have L4 := L3.keep n4
  obtain ⟨W4, hW4⟩ : ∃ W, w3.alloc (.cells #[.int .i64 0, .int .i64 0, .int .i64 0] 59) = W := ⟨_, rfl⟩
  obtain ⟨vb, hvb⟩ : ∃ s, w3.heap.size = s := ⟨_, rfl⟩
  rw [hW4] at V4 N4 L4
  rw [hvb] at V4
  try rw [hW4]
  try rw [hvb]
  clear n4 N3 L3 hW4 hvb a03 a13 a23 b03 b13 b23 x03 x13 la3 lb3 lx3
  refine (refVec_is HA.out _).mono ?_
  rintro e w5 ⟨rfl, n5⟩
  have N5 := N4.trans n5
  have L5 := L4.keep n5
  have V5 := V4.keep n5
  clear n5 N4 L4 V4
  have a05 : World.cell? w5 ⟨sb, 0, none⟩ = some (.int .i64 a.x) := L5.A.cell 0
  have a15 : World.cell? w5 ⟨sb, 1, none⟩ = some (.int .i64 a.y) := L5.A.cell 1
  have a25 : World.cell? w5 ⟨sb, 2, none⟩ = some (.int .i64 a.z) := L5.A.cell 2
  have la5 := L5.A.lt
  have b05 : World.cell? w5 ⟨sb + 1, 0, none⟩ = some (.int .i64 b.x) := L5.B.cell 0
  have b15 : World.cell? w5 ⟨sb + 1, 1, none⟩ = some (.int .i64 b.y) := L5.B.cell 1
  have b25 : World.cell? w5 ⟨sb + 1, 2, none⟩ = some (.int .i64 b.z) := L5.B.cell 2
  have lb5 := L5.B.lt
  have x05 : World.cell? w5 ⟨sb + 1 + 1, 0, none⟩ = some (.int .i64 t) := L5.X.cell 0
  have x15 : World.cell? w5 ⟨sb + 1 + 1, 1, none⟩ = some (.int .i64 q) := L5.X.cell 1
  have lx5 := L5.X.lt
  have v0 := V5.cell 0
  have v1 := V5.cell 1
  have v2 := V5.cell 2
  have lv := V5.lt
  simp only [List.getElem?_toArray, List.getElem?_cons_zero, List.getElem?_cons_succ] at v0 v1 v2
  go_wp2_with fail
  refine (refVec_is HB.out _).mono ?_
  rintro e w6 ⟨rfl, n6⟩
  have N6 := N5.trans n6
  have L6 := L5.keep n6
  have V6 := V5.keep n6
  clear n6 N5 L5 V5 v0 v1 v2 lv a05 a15 a25 b05 b15 b25 x05 x15 la5 lb5 lx5
  have a06 : World.cell? w6 ⟨sb, 0, none⟩ = some (.int .i64 a.x) := L6.A.cell 0
  have a16 : World.cell? w6 ⟨sb, 1, none⟩ = some (.int .i64 a.y) := L6.A.cell 1
  have a26 : World.cell? w6 ⟨sb, 2, none⟩ = some (.int .i64 a.z) := L6.A.cell 2
  have la6 := L6.A.lt
  have b06 : World.cell? w6 ⟨sb + 1, 0, none⟩ = some (.int .i64 b.x) := L6.B.cell 0
  have b16 : World.cell? w6 ⟨sb + 1, 1, none⟩ = some (.int .i64 b.y) := L6.B.cell 1
  have b26 : World.cell? w6 ⟨sb + 1, 2, none⟩ = some (.int .i64 b.z) := L6.B.cell 2
  have lb6 := L6.B.lt
  have x06 : World.cell? w6 ⟨sb + 1 + 1, 0, none⟩ = some (.int .i64 t) := L6.X.cell 0
  have x16 : World.cell? w6 ⟨sb + 1 + 1, 1, none⟩ = some (.int .i64 q) := L6.X.cell 1
  have lx6 := L6.X.lt
  have v0 := V6.cell 0
  have v1 := V6.cell 1
  have v2 := V6.cell 2
  have lv := V6.lt
  simp only [List.getElem?_toArray, List.getElem?_cons_zero, List.getElem?_cons_succ] at v0 v1 v2
  go_wp2_with (first | (go_at_call 19; refine (bWithin_any _ _ _ _).mono ?_; rintro e w' ⟨rfl, rfl⟩; rw [HW.out]) | (go_at_call 36; refine (bIsTick_any _ _).mono ?_; rintro e w' ⟨rfl, rfl⟩; rw [HT.out]))
  refine (refLit_is HPV.out _ HAV3.out HBV3.out HTT.out).mono ?_
  rintro e w7 ⟨rfl, n7⟩
  have N7 := N6.trans n7
  have L7 := L6.keep n7
  have V7 := V6.keep n7
  clear n7 N6 L6 V6 v0 v1 v2 lv a06 a16 a26 b06 b16 b26 x06 x16 la6 lb6 lx6
  have a07 : World.cell? w7 ⟨sb, 0, none⟩ = some (.int .i64 a.x) := L7.A.cell 0
  have a17 : World.cell? w7 ⟨sb, 1, none⟩ = some (.int .i64 a.y) := L7.A.cell 1
  have a27 : World.cell? w7 ⟨sb, 2, none⟩ = some (.int .i64 a.z) := L7.A.cell 2
  have la7 := L7.A.lt
  have b07 : World.cell? w7 ⟨sb + 1, 0, none⟩ = some (.int .i64 b.x) := L7.B.cell 0
  have b17 : World.cell? w7 ⟨sb + 1, 1, none⟩ = some (.int .i64 b.y) := L7.B.cell 1
  have b27 : World.cell? w7 ⟨sb + 1, 2, none⟩ = some (.int .i64 b.z) := L7.B.cell 2
  have lb7 := L7.B.lt
  have x07 : World.cell? w7 ⟨sb + 1 + 1, 0, none⟩ = some (.int .i64 t) := L7.X.cell 0
  have x17 : World.cell? w7 ⟨sb + 1 + 1, 1, none⟩ = some (.int .i64 q) := L7.X.cell 1
  have lx7 := L7.X.lt
  have v0 := V7.cell 0
  have v1 := V7.cell 1
  have v2 := V7.cell 2
  have lv := V7.lt
  simp only [List.getElem?_toArray, List.getElem?_cons_zero, List.getElem?_cons_succ] at v0 v1 v2
  go_wp2_with (first | (go_at_call 19; refine (bWithin_any _ _ _ _).mono ?_; rintro e w' ⟨rfl, rfl⟩; rw [HW.out]) | (go_at_call 36; refine (bIsTick_any _ _).mono ?_; rintro e w' ⟨rfl, rfl⟩; rw [HT.out]))
  go_ret
  exact ⟨rfl, N7⟩
set_option maxRecDepth 100000 in
set_option maxHeartbeats 8000000 in
theorem light_B3T1 (a b : Ve) (t q : Int) (w : World) (ha : vecE a = 0) (p : Int) (hb : vecE b = 0) (hw : inR t 0 4000000 = true) (hp : litS a b t = p) (u : Ve) (hu : sunS a (q % 4).toNat = u) (ht : inR q 0 1000000000000 = true) (hl : 999999999996 < q) :
    Calls Try.prog 5 #[.agg #[.int .i64 a.x, .int .i64 a.y, .int .i64 a.z], .agg #[.int .i64 b.x, .int .i64 b.y, .int .i64 b.z], .agg #[.int .i64 t, .int .i64 q]] w fun e w' => e = .returned (.bool true) ∧ New w w' := by
  have N0 := (((New.refl w).alloc (.cells #[.int .i64 a.x, .int .i64 a.y, .int .i64 a.z] 59)).alloc (.cells #[.int .i64 b.x, .int .i64 b.y, .int .i64 b.z] 59)).alloc (.cells #[.int .i64 t, .int .i64 q] 60)
  have L0 : LBox w.heap.size a b t q _ := ⟨((Bx.mk w 59 #[.int .i64 a.x, .int .i64 a.y, .int .i64 a.z]).alloc (.cells #[.int .i64 b.x, .int .i64 b.y, .int .i64 b.z] 59)).alloc (.cells #[.int .i64 t, .int .i64 q] 60),
    (Bx.mk_at _ 59 #[.int .i64 b.x, .int .i64 b.y, .int .i64 b.z] (w.heap.size + 1) (by simp)).alloc _, Bx.mk_at _ 60 #[.int .i64 t, .int .i64 q] (w.heap.size + 1 + 1) (by simp)⟩
  obtain ⟨W0, hW0⟩ : ∃ W, (((w.alloc (.cells #[.int .i64 a.x, .int .i64 a.y, .int .i64 a.z] 59)).alloc (.cells #[.int .i64 b.x, .int .i64 b.y, .int .i64 b.z] 59)).alloc (.cells #[.int .i64 t, .int .i64 q] 60)) = W := ⟨_, rfl⟩
  rw [hW0] at N0 L0
  have HA := Lib.hid ha
  have HLE := Lib.hid (show litE a b t = 0 by simp [litE, firstE, ha, hb, hw, errU])
  have HB := Lib.hid hb
  have HW := Lib.hid hw
  have HPV := Lib.hid hp
  have HAV3 := Lib.hid (show (-1000 ≤ a.x ∧ a.x ≤ 1000) ∧ (-1000 ≤ a.y ∧ a.y ≤ 1000) ∧ (-1000 ≤ a.z ∧ a.z ≤ 1000) from ⟨(vecE_zero ha).1, (vecE_zero ha).2.1, (vecE_zero ha).2.2.1⟩)
  have HBV3 := Lib.hid (show (-1000 ≤ b.x ∧ b.x ≤ 1000) ∧ (-1000 ≤ b.y ∧ b.y ≤ 1000) ∧ (-1000 ≤ b.z ∧ b.z ≤ 1000) from ⟨(vecE_zero hb).1, (vecE_zero hb).2.1, (vecE_zero hb).2.2.1⟩)
  have htt := inR_iff.1 hw
  have HTT := Lib.hid htt
  have huu : ∀ W, (binOp .neq 59 (.agg #[.int .i64 u.x, .int .i64 u.y, .int .i64 u.z]) (.agg #[.int .i64 u.x, .int .i64 u.y, .int .i64 u.z])).run Try.prog W = .ok (.bool false) W := fun W => by rw [neq_vecG]; simp
  have HSE := Lib.hid (show sunE a q = 0 by simp [sunE, firstE, ha, ht, errU])
  have HT := Lib.hid (show tick q = true from ht)
  have HAV3 := Lib.hid (show (-1000 ≤ a.x ∧ a.x ≤ 1000) ∧ (-1000 ≤ a.y ∧ a.y ≤ 1000) ∧ (-1000 ≤ a.z ∧ a.z ≤ 1000) from ⟨(vecE_zero ha).1, (vecE_zero ha).2.1, (vecE_zero ha).2.2.1⟩)
  have hq := inR_iff.1 ht
  have HQ := Lib.hid hq
  have HU := Lib.hid hu
  clear ha hb hw ht
  go_enter Try.func5, Try.ntmps5
  go_wp2_with fail
  try rw [hW0]
  clear hW0
  refine (awake6_any _).mono ?_
  rintro e w1 ⟨rfl, n1⟩
  have N1 := N0.trans n1
  have L1 := L0.keep n1
  clear n1 N0 L0
  obtain ⟨sb, hsb⟩ : ∃ s, w.heap.size = s := ⟨_, rfl⟩
  rw [hsb] at L1
  try rw [hsb]
  have a01 : World.cell? w1 ⟨sb, 0, none⟩ = some (.int .i64 a.x) := L1.A.cell 0
  have a11 : World.cell? w1 ⟨sb, 1, none⟩ = some (.int .i64 a.y) := L1.A.cell 1
  have a21 : World.cell? w1 ⟨sb, 2, none⟩ = some (.int .i64 a.z) := L1.A.cell 2
  have la1 := L1.A.lt
  have b01 : World.cell? w1 ⟨sb + 1, 0, none⟩ = some (.int .i64 b.x) := L1.B.cell 0
  have b11 : World.cell? w1 ⟨sb + 1, 1, none⟩ = some (.int .i64 b.y) := L1.B.cell 1
  have b21 : World.cell? w1 ⟨sb + 1, 2, none⟩ = some (.int .i64 b.z) := L1.B.cell 2
  have lb1 := L1.B.lt
  have x01 : World.cell? w1 ⟨sb + 1 + 1, 0, none⟩ = some (.int .i64 t) := L1.X.cell 0
  have x11 : World.cell? w1 ⟨sb + 1 + 1, 1, none⟩ = some (.int .i64 q) := L1.X.cell 1
  have lx1 := L1.X.lt
  go_wp2_with fail
  refine (cLitAt_ok HLE.out hp _).mono ?_
  rintro e w2 ⟨rfl, n2⟩
  have N2 := N1.trans n2
  have L2 := L1.keep n2
  clear n2 N1 L1 a01 a11 a21 b01 b11 b21 x01 x11 la1 lb1 lx1
  have a02 : World.cell? w2 ⟨sb, 0, none⟩ = some (.int .i64 a.x) := L2.A.cell 0
  have a12 : World.cell? w2 ⟨sb, 1, none⟩ = some (.int .i64 a.y) := L2.A.cell 1
  have a22 : World.cell? w2 ⟨sb, 2, none⟩ = some (.int .i64 a.z) := L2.A.cell 2
  have la2 := L2.A.lt
  have b02 : World.cell? w2 ⟨sb + 1, 0, none⟩ = some (.int .i64 b.x) := L2.B.cell 0
  have b12 : World.cell? w2 ⟨sb + 1, 1, none⟩ = some (.int .i64 b.y) := L2.B.cell 1
  have b22 : World.cell? w2 ⟨sb + 1, 2, none⟩ = some (.int .i64 b.z) := L2.B.cell 2
  have lb2 := L2.B.lt
  have x02 : World.cell? w2 ⟨sb + 1 + 1, 0, none⟩ = some (.int .i64 t) := L2.X.cell 0
  have x12 : World.cell? w2 ⟨sb + 1 + 1, 1, none⟩ = some (.int .i64 q) := L2.X.cell 1
  have lx2 := L2.X.lt
  go_wp2_with fail
  refine (cSunAt_ok HSE.out hu _).mono ?_
  rintro e w3 ⟨rfl, n3⟩
  have N3 := N2.trans n3
  have L3 := L2.keep n3
  clear n3 N2 L2 a02 a12 a22 b02 b12 b22 x02 x12 la2 lb2 lx2
  have a03 : World.cell? w3 ⟨sb, 0, none⟩ = some (.int .i64 a.x) := L3.A.cell 0
  have a13 : World.cell? w3 ⟨sb, 1, none⟩ = some (.int .i64 a.y) := L3.A.cell 1
  have a23 : World.cell? w3 ⟨sb, 2, none⟩ = some (.int .i64 a.z) := L3.A.cell 2
  have la3 := L3.A.lt
  have b03 : World.cell? w3 ⟨sb + 1, 0, none⟩ = some (.int .i64 b.x) := L3.B.cell 0
  have b13 : World.cell? w3 ⟨sb + 1, 1, none⟩ = some (.int .i64 b.y) := L3.B.cell 1
  have b23 : World.cell? w3 ⟨sb + 1, 2, none⟩ = some (.int .i64 b.z) := L3.B.cell 2
  have lb3 := L3.B.lt
  have x03 : World.cell? w3 ⟨sb + 1 + 1, 0, none⟩ = some (.int .i64 t) := L3.X.cell 0
  have x13 : World.cell? w3 ⟨sb + 1 + 1, 1, none⟩ = some (.int .i64 q) := L3.X.cell 1
  have lx3 := L3.X.lt
  go_wp2_with fail
  have V4 := Bx.mk w3 59 #[.int .i64 u.x, .int .i64 u.y, .int .i64 u.z]
  have n4 := (New.refl w3).alloc (.cells #[.int .i64 u.x, .int .i64 u.y, .int .i64 u.z] 59)
  have N4 := N3.trans n4
  have L4 := L3.keep n4
  obtain ⟨W4, hW4⟩ : ∃ W, w3.alloc (.cells #[.int .i64 u.x, .int .i64 u.y, .int .i64 u.z] 59) = W := ⟨_, rfl⟩
  obtain ⟨vb, hvb⟩ : ∃ s, w3.heap.size = s := ⟨_, rfl⟩
  rw [hW4] at V4 N4 L4
  rw [hvb] at V4
  try rw [hW4]
  try rw [hvb]
  clear n4 N3 L3 hW4 hvb a03 a13 a23 b03 b13 b23 x03 x13 la3 lb3 lx3
  refine (refVec_is HA.out _).mono ?_
  rintro e w5 ⟨rfl, n5⟩
  have N5 := N4.trans n5
  have L5 := L4.keep n5
  have V5 := V4.keep n5
  clear n5 N4 L4 V4
  have a05 : World.cell? w5 ⟨sb, 0, none⟩ = some (.int .i64 a.x) := L5.A.cell 0
  have a15 : World.cell? w5 ⟨sb, 1, none⟩ = some (.int .i64 a.y) := L5.A.cell 1
  have a25 : World.cell? w5 ⟨sb, 2, none⟩ = some (.int .i64 a.z) := L5.A.cell 2
  have la5 := L5.A.lt
  have b05 : World.cell? w5 ⟨sb + 1, 0, none⟩ = some (.int .i64 b.x) := L5.B.cell 0
  have b15 : World.cell? w5 ⟨sb + 1, 1, none⟩ = some (.int .i64 b.y) := L5.B.cell 1
  have b25 : World.cell? w5 ⟨sb + 1, 2, none⟩ = some (.int .i64 b.z) := L5.B.cell 2
  have lb5 := L5.B.lt
  have x05 : World.cell? w5 ⟨sb + 1 + 1, 0, none⟩ = some (.int .i64 t) := L5.X.cell 0
  have x15 : World.cell? w5 ⟨sb + 1 + 1, 1, none⟩ = some (.int .i64 q) := L5.X.cell 1
  have lx5 := L5.X.lt
  have v0 := V5.cell 0
  have v1 := V5.cell 1
  have v2 := V5.cell 2
  have lv := V5.lt
  simp only [List.getElem?_toArray, List.getElem?_cons_zero, List.getElem?_cons_succ] at v0 v1 v2
  go_wp2_with fail
  refine (refVec_is HB.out _).mono ?_
  rintro e w6 ⟨rfl, n6⟩
  have N6 := N5.trans n6
  have L6 := L5.keep n6
  have V6 := V5.keep n6
  clear n6 N5 L5 V5 v0 v1 v2 lv a05 a15 a25 b05 b15 b25 x05 x15 la5 lb5 lx5
  have a06 : World.cell? w6 ⟨sb, 0, none⟩ = some (.int .i64 a.x) := L6.A.cell 0
  have a16 : World.cell? w6 ⟨sb, 1, none⟩ = some (.int .i64 a.y) := L6.A.cell 1
  have a26 : World.cell? w6 ⟨sb, 2, none⟩ = some (.int .i64 a.z) := L6.A.cell 2
  have la6 := L6.A.lt
  have b06 : World.cell? w6 ⟨sb + 1, 0, none⟩ = some (.int .i64 b.x) := L6.B.cell 0
  have b16 : World.cell? w6 ⟨sb + 1, 1, none⟩ = some (.int .i64 b.y) := L6.B.cell 1
  have b26 : World.cell? w6 ⟨sb + 1, 2, none⟩ = some (.int .i64 b.z) := L6.B.cell 2
  have lb6 := L6.B.lt
  have x06 : World.cell? w6 ⟨sb + 1 + 1, 0, none⟩ = some (.int .i64 t) := L6.X.cell 0
  have x16 : World.cell? w6 ⟨sb + 1 + 1, 1, none⟩ = some (.int .i64 q) := L6.X.cell 1
  have lx6 := L6.X.lt
  have v0 := V6.cell 0
  have v1 := V6.cell 1
  have v2 := V6.cell 2
  have lv := V6.lt
  simp only [List.getElem?_toArray, List.getElem?_cons_zero, List.getElem?_cons_succ] at v0 v1 v2
  go_wp2_with (first | (go_at_call 19; refine (bWithin_any _ _ _ _).mono ?_; rintro e w' ⟨rfl, rfl⟩; rw [HW.out]) | (go_at_call 36; refine (bIsTick_any _ _).mono ?_; rintro e w' ⟨rfl, rfl⟩; rw [HT.out]))
  refine (refLit_is HPV.out _ HAV3.out HBV3.out HTT.out).mono ?_
  rintro e w7 ⟨rfl, n7⟩
  have N7 := N6.trans n7
  have L7 := L6.keep n7
  have V7 := V6.keep n7
  clear n7 N6 L6 V6 v0 v1 v2 lv a06 a16 a26 b06 b16 b26 x06 x16 la6 lb6 lx6
  have a07 : World.cell? w7 ⟨sb, 0, none⟩ = some (.int .i64 a.x) := L7.A.cell 0
  have a17 : World.cell? w7 ⟨sb, 1, none⟩ = some (.int .i64 a.y) := L7.A.cell 1
  have a27 : World.cell? w7 ⟨sb, 2, none⟩ = some (.int .i64 a.z) := L7.A.cell 2
  have la7 := L7.A.lt
  have b07 : World.cell? w7 ⟨sb + 1, 0, none⟩ = some (.int .i64 b.x) := L7.B.cell 0
  have b17 : World.cell? w7 ⟨sb + 1, 1, none⟩ = some (.int .i64 b.y) := L7.B.cell 1
  have b27 : World.cell? w7 ⟨sb + 1, 2, none⟩ = some (.int .i64 b.z) := L7.B.cell 2
  have lb7 := L7.B.lt
  have x07 : World.cell? w7 ⟨sb + 1 + 1, 0, none⟩ = some (.int .i64 t) := L7.X.cell 0
  have x17 : World.cell? w7 ⟨sb + 1 + 1, 1, none⟩ = some (.int .i64 q) := L7.X.cell 1
  have lx7 := L7.X.lt
  have v0 := V7.cell 0
  have v1 := V7.cell 1
  have v2 := V7.cell 2
  have lv := V7.lt
  simp only [List.getElem?_toArray, List.getElem?_cons_zero, List.getElem?_cons_succ] at v0 v1 v2
  go_wp2_with (first | (go_at_call 19; refine (bWithin_any _ _ _ _).mono ?_; rintro e w' ⟨rfl, rfl⟩; rw [HW.out]) | (go_at_call 36; refine (bIsTick_any _ _).mono ?_; rintro e w' ⟨rfl, rfl⟩; rw [HT.out]))
  (refine wp_region_new (by kernel_rfl) (by kernel_rfl) ?_; (repeat (go_big_quiet_step ((first | (go_at_call 37; with_reducible exact quiet_new (refSun_is HU.out _ HAV3.out HQ.out)))))); refine wpQuiet_nil ?_)
  intro w8 n8
  have N8 := N7.trans n8
  have L8 := L7.keep n8
  have V8 := V7.keep n8
  clear n8 N7 L7 V7 v0 v1 v2 lv a07 a17 a27 b07 b17 b27 x07 x17 la7 lb7 lx7
  have a08 : World.cell? w8 ⟨sb, 0, none⟩ = some (.int .i64 a.x) := L8.A.cell 0
  have a18 : World.cell? w8 ⟨sb, 1, none⟩ = some (.int .i64 a.y) := L8.A.cell 1
  have a28 : World.cell? w8 ⟨sb, 2, none⟩ = some (.int .i64 a.z) := L8.A.cell 2
  have la8 := L8.A.lt
  have b08 : World.cell? w8 ⟨sb + 1, 0, none⟩ = some (.int .i64 b.x) := L8.B.cell 0
  have b18 : World.cell? w8 ⟨sb + 1, 1, none⟩ = some (.int .i64 b.y) := L8.B.cell 1
  have b28 : World.cell? w8 ⟨sb + 1, 2, none⟩ = some (.int .i64 b.z) := L8.B.cell 2
  have lb8 := L8.B.lt
  have x08 : World.cell? w8 ⟨sb + 1 + 1, 0, none⟩ = some (.int .i64 t) := L8.X.cell 0
  have x18 : World.cell? w8 ⟨sb + 1 + 1, 1, none⟩ = some (.int .i64 q) := L8.X.cell 1
  have lx8 := L8.X.lt
  have v0 := V8.cell 0
  have v1 := V8.cell 1
  have v2 := V8.cell 2
  have lv := V8.lt
  simp only [List.getElem?_toArray, List.getElem?_cons_zero, List.getElem?_cons_succ] at v0 v1 v2
  go_wp2_with fail
  go_ret
  exact ⟨rfl, N8⟩
set_option maxRecDepth 100000 in
set_option maxHeartbeats 8000000 in
theorem light_B3T2z (a b : Ve) (t q : Int) (w : World) (ha : vecE a = 0) (p : Int) (hb : vecE b = 0) (hw : inR t 0 4000000 = true) (hp : litS a b t = p) (u : Ve) (hu : sunS a (q % 4).toNat = u) (ht : inR q 0 1000000000000 = true) (u2 : Ve) (hu2 : sunS a ((q + 2) % 4).toNat = u2) (hl : q ≤ 999999999996) (h2 : vecE u2 = 0) (hz : a.z ≠ 0 ∧ b.z ≠ 0) :
    Calls Try.prog 5 #[.agg #[.int .i64 a.x, .int .i64 a.y, .int .i64 a.z], .agg #[.int .i64 b.x, .int .i64 b.y, .int .i64 b.z], .agg #[.int .i64 t, .int .i64 q]] w fun e w' => e = .returned (.bool true) ∧ New w w' := by
  have N0 := (((New.refl w).alloc (.cells #[.int .i64 a.x, .int .i64 a.y, .int .i64 a.z] 59)).alloc (.cells #[.int .i64 b.x, .int .i64 b.y, .int .i64 b.z] 59)).alloc (.cells #[.int .i64 t, .int .i64 q] 60)
  have L0 : LBox w.heap.size a b t q _ := ⟨((Bx.mk w 59 #[.int .i64 a.x, .int .i64 a.y, .int .i64 a.z]).alloc (.cells #[.int .i64 b.x, .int .i64 b.y, .int .i64 b.z] 59)).alloc (.cells #[.int .i64 t, .int .i64 q] 60),
    (Bx.mk_at _ 59 #[.int .i64 b.x, .int .i64 b.y, .int .i64 b.z] (w.heap.size + 1) (by simp)).alloc _, Bx.mk_at _ 60 #[.int .i64 t, .int .i64 q] (w.heap.size + 1 + 1) (by simp)⟩
  obtain ⟨W0, hW0⟩ : ∃ W, (((w.alloc (.cells #[.int .i64 a.x, .int .i64 a.y, .int .i64 a.z] 59)).alloc (.cells #[.int .i64 b.x, .int .i64 b.y, .int .i64 b.z] 59)).alloc (.cells #[.int .i64 t, .int .i64 q] 60)) = W := ⟨_, rfl⟩
  rw [hW0] at N0 L0
  have HA := Lib.hid ha
  have HU2 := Lib.hid hu2
  have HU4 := Lib.hid (show sunS a ((q + 4) % 4).toNat = u by rw [show (q + 4) % 4 = q % 4 by omega]; exact hu)
  have HS2 := Lib.hid (show sunE a (q + 2) = 0 by
    have h5 := inR_iff.1 ht
    have h6 : inR (q + 2) 0 1000000000000 = true := inR_iff.2 ⟨by omega, by omega⟩
    simp [sunE, firstE, ha, h6, errU])
  have HS4 := Lib.hid (show sunE a (q + 4) = 0 by
    have h5 := inR_iff.1 ht
    have h6 : inR (q + 4) 0 1000000000000 = true := inR_iff.2 ⟨by omega, by omega⟩
    simp [sunE, firstE, ha, h6, errU])
  have HV2 := Lib.hid h2
  clear h2
  have bz1 : (a.z != 0) = true := by simpa using hz.1
  have bz2 : (b.z != 0) = true := by simpa using hz.2
  have HLE := Lib.hid (show litE a b t = 0 by simp [litE, firstE, ha, hb, hw, errU])
  have HB := Lib.hid hb
  have HW := Lib.hid hw
  have HPV := Lib.hid hp
  have HAV3 := Lib.hid (show (-1000 ≤ a.x ∧ a.x ≤ 1000) ∧ (-1000 ≤ a.y ∧ a.y ≤ 1000) ∧ (-1000 ≤ a.z ∧ a.z ≤ 1000) from ⟨(vecE_zero ha).1, (vecE_zero ha).2.1, (vecE_zero ha).2.2.1⟩)
  have HBV3 := Lib.hid (show (-1000 ≤ b.x ∧ b.x ≤ 1000) ∧ (-1000 ≤ b.y ∧ b.y ≤ 1000) ∧ (-1000 ≤ b.z ∧ b.z ≤ 1000) from ⟨(vecE_zero hb).1, (vecE_zero hb).2.1, (vecE_zero hb).2.2.1⟩)
  have htt := inR_iff.1 hw
  have HTT := Lib.hid htt
  have huu : ∀ W, (binOp .neq 59 (.agg #[.int .i64 u.x, .int .i64 u.y, .int .i64 u.z]) (.agg #[.int .i64 u.x, .int .i64 u.y, .int .i64 u.z])).run Try.prog W = .ok (.bool false) W := fun W => by rw [neq_vecG]; simp
  have HSE := Lib.hid (show sunE a q = 0 by simp [sunE, firstE, ha, ht, errU])
  have HT := Lib.hid (show tick q = true from ht)
  have HAV3 := Lib.hid (show (-1000 ≤ a.x ∧ a.x ≤ 1000) ∧ (-1000 ≤ a.y ∧ a.y ≤ 1000) ∧ (-1000 ≤ a.z ∧ a.z ≤ 1000) from ⟨(vecE_zero ha).1, (vecE_zero ha).2.1, (vecE_zero ha).2.2.1⟩)
  have hq := inR_iff.1 ht
  have HQ := Lib.hid hq
  have HU := Lib.hid hu
  clear ha hb hw ht
  go_enter Try.func5, Try.ntmps5
  go_wp2_with fail
  try rw [hW0]
  clear hW0
  refine (awake6_any _).mono ?_
  rintro e w1 ⟨rfl, n1⟩
  have N1 := N0.trans n1
  have L1 := L0.keep n1
  clear n1 N0 L0
  obtain ⟨sb, hsb⟩ : ∃ s, w.heap.size = s := ⟨_, rfl⟩
  rw [hsb] at L1
  try rw [hsb]
  have a01 : World.cell? w1 ⟨sb, 0, none⟩ = some (.int .i64 a.x) := L1.A.cell 0
  have a11 : World.cell? w1 ⟨sb, 1, none⟩ = some (.int .i64 a.y) := L1.A.cell 1
  have a21 : World.cell? w1 ⟨sb, 2, none⟩ = some (.int .i64 a.z) := L1.A.cell 2
  have la1 := L1.A.lt
  have b01 : World.cell? w1 ⟨sb + 1, 0, none⟩ = some (.int .i64 b.x) := L1.B.cell 0
  have b11 : World.cell? w1 ⟨sb + 1, 1, none⟩ = some (.int .i64 b.y) := L1.B.cell 1
  have b21 : World.cell? w1 ⟨sb + 1, 2, none⟩ = some (.int .i64 b.z) := L1.B.cell 2
  have lb1 := L1.B.lt
  have x01 : World.cell? w1 ⟨sb + 1 + 1, 0, none⟩ = some (.int .i64 t) := L1.X.cell 0
  have x11 : World.cell? w1 ⟨sb + 1 + 1, 1, none⟩ = some (.int .i64 q) := L1.X.cell 1
  have lx1 := L1.X.lt
  go_wp2_with fail
  refine (cLitAt_ok HLE.out hp _).mono ?_
  rintro e w2 ⟨rfl, n2⟩
  have N2 := N1.trans n2
  have L2 := L1.keep n2
  clear n2 N1 L1 a01 a11 a21 b01 b11 b21 x01 x11 la1 lb1 lx1
  have a02 : World.cell? w2 ⟨sb, 0, none⟩ = some (.int .i64 a.x) := L2.A.cell 0
  have a12 : World.cell? w2 ⟨sb, 1, none⟩ = some (.int .i64 a.y) := L2.A.cell 1
  have a22 : World.cell? w2 ⟨sb, 2, none⟩ = some (.int .i64 a.z) := L2.A.cell 2
  have la2 := L2.A.lt
  have b02 : World.cell? w2 ⟨sb + 1, 0, none⟩ = some (.int .i64 b.x) := L2.B.cell 0
  have b12 : World.cell? w2 ⟨sb + 1, 1, none⟩ = some (.int .i64 b.y) := L2.B.cell 1
  have b22 : World.cell? w2 ⟨sb + 1, 2, none⟩ = some (.int .i64 b.z) := L2.B.cell 2
  have lb2 := L2.B.lt
  have x02 : World.cell? w2 ⟨sb + 1 + 1, 0, none⟩ = some (.int .i64 t) := L2.X.cell 0
  have x12 : World.cell? w2 ⟨sb + 1 + 1, 1, none⟩ = some (.int .i64 q) := L2.X.cell 1
  have lx2 := L2.X.lt
  go_wp2_with fail
  refine (cSunAt_ok HSE.out hu _).mono ?_
  rintro e w3 ⟨rfl, n3⟩
  have N3 := N2.trans n3
  have L3 := L2.keep n3
  clear n3 N2 L2 a02 a12 a22 b02 b12 b22 x02 x12 la2 lb2 lx2
  have a03 : World.cell? w3 ⟨sb, 0, none⟩ = some (.int .i64 a.x) := L3.A.cell 0
  have a13 : World.cell? w3 ⟨sb, 1, none⟩ = some (.int .i64 a.y) := L3.A.cell 1
  have a23 : World.cell? w3 ⟨sb, 2, none⟩ = some (.int .i64 a.z) := L3.A.cell 2
  have la3 := L3.A.lt
  have b03 : World.cell? w3 ⟨sb + 1, 0, none⟩ = some (.int .i64 b.x) := L3.B.cell 0
  have b13 : World.cell? w3 ⟨sb + 1, 1, none⟩ = some (.int .i64 b.y) := L3.B.cell 1
  have b23 : World.cell? w3 ⟨sb + 1, 2, none⟩ = some (.int .i64 b.z) := L3.B.cell 2
  have lb3 := L3.B.lt
  have x03 : World.cell? w3 ⟨sb + 1 + 1, 0, none⟩ = some (.int .i64 t) := L3.X.cell 0
  have x13 : World.cell? w3 ⟨sb + 1 + 1, 1, none⟩ = some (.int .i64 q) := L3.X.cell 1
  have lx3 := L3.X.lt
  go_wp2_with fail
  have V4 := Bx.mk w3 59 #[.int .i64 u.x, .int .i64 u.y, .int .i64 u.z]
  have n4 := (New.refl w3).alloc (.cells #[.int .i64 u.x, .int .i64 u.y, .int .i64 u.z] 59)
  have N4 := N3.trans n4
  have L4 := L3.keep n4
  obtain ⟨W4, hW4⟩ : ∃ W, w3.alloc (.cells #[.int .i64 u.x, .int .i64 u.y, .int .i64 u.z] 59) = W := ⟨_, rfl⟩
  obtain ⟨vb, hvb⟩ : ∃ s, w3.heap.size = s := ⟨_, rfl⟩
  rw [hW4] at V4 N4 L4
  rw [hvb] at V4
  try rw [hW4]
  try rw [hvb]
  clear n4 N3 L3 hW4 hvb a03 a13 a23 b03 b13 b23 x03 x13 la3 lb3 lx3
  refine (refVec_is HA.out _).mono ?_
  rintro e w5 ⟨rfl, n5⟩
  have N5 := N4.trans n5
  have L5 := L4.keep n5
  have V5 := V4.keep n5
  clear n5 N4 L4 V4
  have a05 : World.cell? w5 ⟨sb, 0, none⟩ = some (.int .i64 a.x) := L5.A.cell 0
  have a15 : World.cell? w5 ⟨sb, 1, none⟩ = some (.int .i64 a.y) := L5.A.cell 1
  have a25 : World.cell? w5 ⟨sb, 2, none⟩ = some (.int .i64 a.z) := L5.A.cell 2
  have la5 := L5.A.lt
  have b05 : World.cell? w5 ⟨sb + 1, 0, none⟩ = some (.int .i64 b.x) := L5.B.cell 0
  have b15 : World.cell? w5 ⟨sb + 1, 1, none⟩ = some (.int .i64 b.y) := L5.B.cell 1
  have b25 : World.cell? w5 ⟨sb + 1, 2, none⟩ = some (.int .i64 b.z) := L5.B.cell 2
  have lb5 := L5.B.lt
  have x05 : World.cell? w5 ⟨sb + 1 + 1, 0, none⟩ = some (.int .i64 t) := L5.X.cell 0
  have x15 : World.cell? w5 ⟨sb + 1 + 1, 1, none⟩ = some (.int .i64 q) := L5.X.cell 1
  have lx5 := L5.X.lt
  have v0 := V5.cell 0
  have v1 := V5.cell 1
  have v2 := V5.cell 2
  have lv := V5.lt
  simp only [List.getElem?_toArray, List.getElem?_cons_zero, List.getElem?_cons_succ] at v0 v1 v2
  go_wp2_with fail
  refine (refVec_is HB.out _).mono ?_
  rintro e w6 ⟨rfl, n6⟩
  have N6 := N5.trans n6
  have L6 := L5.keep n6
  have V6 := V5.keep n6
  clear n6 N5 L5 V5 v0 v1 v2 lv a05 a15 a25 b05 b15 b25 x05 x15 la5 lb5 lx5
  have a06 : World.cell? w6 ⟨sb, 0, none⟩ = some (.int .i64 a.x) := L6.A.cell 0
  have a16 : World.cell? w6 ⟨sb, 1, none⟩ = some (.int .i64 a.y) := L6.A.cell 1
  have a26 : World.cell? w6 ⟨sb, 2, none⟩ = some (.int .i64 a.z) := L6.A.cell 2
  have la6 := L6.A.lt
  have b06 : World.cell? w6 ⟨sb + 1, 0, none⟩ = some (.int .i64 b.x) := L6.B.cell 0
  have b16 : World.cell? w6 ⟨sb + 1, 1, none⟩ = some (.int .i64 b.y) := L6.B.cell 1
  have b26 : World.cell? w6 ⟨sb + 1, 2, none⟩ = some (.int .i64 b.z) := L6.B.cell 2
  have lb6 := L6.B.lt
  have x06 : World.cell? w6 ⟨sb + 1 + 1, 0, none⟩ = some (.int .i64 t) := L6.X.cell 0
  have x16 : World.cell? w6 ⟨sb + 1 + 1, 1, none⟩ = some (.int .i64 q) := L6.X.cell 1
  have lx6 := L6.X.lt
  have v0 := V6.cell 0
  have v1 := V6.cell 1
  have v2 := V6.cell 2
  have lv := V6.lt
  simp only [List.getElem?_toArray, List.getElem?_cons_zero, List.getElem?_cons_succ] at v0 v1 v2
  go_wp2_with (first | (go_at_call 19; refine (bWithin_any _ _ _ _).mono ?_; rintro e w' ⟨rfl, rfl⟩; rw [HW.out]) | (go_at_call 36; refine (bIsTick_any _ _).mono ?_; rintro e w' ⟨rfl, rfl⟩; rw [HT.out]))
  refine (refLit_is HPV.out _ HAV3.out HBV3.out HTT.out).mono ?_
  rintro e w7 ⟨rfl, n7⟩
  have N7 := N6.trans n7
  have L7 := L6.keep n7
  have V7 := V6.keep n7
  clear n7 N6 L6 V6 v0 v1 v2 lv a06 a16 a26 b06 b16 b26 x06 x16 la6 lb6 lx6
  have a07 : World.cell? w7 ⟨sb, 0, none⟩ = some (.int .i64 a.x) := L7.A.cell 0
  have a17 : World.cell? w7 ⟨sb, 1, none⟩ = some (.int .i64 a.y) := L7.A.cell 1
  have a27 : World.cell? w7 ⟨sb, 2, none⟩ = some (.int .i64 a.z) := L7.A.cell 2
  have la7 := L7.A.lt
  have b07 : World.cell? w7 ⟨sb + 1, 0, none⟩ = some (.int .i64 b.x) := L7.B.cell 0
  have b17 : World.cell? w7 ⟨sb + 1, 1, none⟩ = some (.int .i64 b.y) := L7.B.cell 1
  have b27 : World.cell? w7 ⟨sb + 1, 2, none⟩ = some (.int .i64 b.z) := L7.B.cell 2
  have lb7 := L7.B.lt
  have x07 : World.cell? w7 ⟨sb + 1 + 1, 0, none⟩ = some (.int .i64 t) := L7.X.cell 0
  have x17 : World.cell? w7 ⟨sb + 1 + 1, 1, none⟩ = some (.int .i64 q) := L7.X.cell 1
  have lx7 := L7.X.lt
  have v0 := V7.cell 0
  have v1 := V7.cell 1
  have v2 := V7.cell 2
  have lv := V7.lt
  simp only [List.getElem?_toArray, List.getElem?_cons_zero, List.getElem?_cons_succ] at v0 v1 v2
  go_wp2_with (first | (go_at_call 19; refine (bWithin_any _ _ _ _).mono ?_; rintro e w' ⟨rfl, rfl⟩; rw [HW.out]) | (go_at_call 36; refine (bIsTick_any _ _).mono ?_; rintro e w' ⟨rfl, rfl⟩; rw [HT.out]))
  (refine wp_region_new (by kernel_rfl) (by kernel_rfl) ?_; (repeat (go_big_quiet_step ((first | (go_at_call 37; with_reducible exact quiet_new (refSun_is HU.out _ HAV3.out HQ.out)))))); refine wpQuiet_nil ?_)
  intro w8 n8
  have N8 := N7.trans n8
  have L8 := L7.keep n8
  have V8 := V7.keep n8
  clear n8 N7 L7 V7 v0 v1 v2 lv a07 a17 a27 b07 b17 b27 x07 x17 la7 lb7 lx7
  have a08 : World.cell? w8 ⟨sb, 0, none⟩ = some (.int .i64 a.x) := L8.A.cell 0
  have a18 : World.cell? w8 ⟨sb, 1, none⟩ = some (.int .i64 a.y) := L8.A.cell 1
  have a28 : World.cell? w8 ⟨sb, 2, none⟩ = some (.int .i64 a.z) := L8.A.cell 2
  have la8 := L8.A.lt
  have b08 : World.cell? w8 ⟨sb + 1, 0, none⟩ = some (.int .i64 b.x) := L8.B.cell 0
  have b18 : World.cell? w8 ⟨sb + 1, 1, none⟩ = some (.int .i64 b.y) := L8.B.cell 1
  have b28 : World.cell? w8 ⟨sb + 1, 2, none⟩ = some (.int .i64 b.z) := L8.B.cell 2
  have lb8 := L8.B.lt
  have x08 : World.cell? w8 ⟨sb + 1 + 1, 0, none⟩ = some (.int .i64 t) := L8.X.cell 0
  have x18 : World.cell? w8 ⟨sb + 1 + 1, 1, none⟩ = some (.int .i64 q) := L8.X.cell 1
  have lx8 := L8.X.lt
  have v0 := V8.cell 0
  have v1 := V8.cell 1
  have v2 := V8.cell 2
  have lv := V8.lt
  simp only [List.getElem?_toArray, List.getElem?_cons_zero, List.getElem?_cons_succ] at v0 v1 v2
  go_wp2_with fail
  refine (cSunAt_ok HS2.out HU2.out _).mono ?_
  rintro e w9 ⟨rfl, n9⟩
  have N9 := N8.trans n9
  have L9 := L8.keep n9
  have V9 := V8.keep n9
  clear n9 N8 L8 V8 v0 v1 v2 lv a08 a18 a28 b08 b18 b28 x08 x18 la8 lb8 lx8
  have a09 : World.cell? w9 ⟨sb, 0, none⟩ = some (.int .i64 a.x) := L9.A.cell 0
  have a19 : World.cell? w9 ⟨sb, 1, none⟩ = some (.int .i64 a.y) := L9.A.cell 1
  have a29 : World.cell? w9 ⟨sb, 2, none⟩ = some (.int .i64 a.z) := L9.A.cell 2
  have la9 := L9.A.lt
  have b09 : World.cell? w9 ⟨sb + 1, 0, none⟩ = some (.int .i64 b.x) := L9.B.cell 0
  have b19 : World.cell? w9 ⟨sb + 1, 1, none⟩ = some (.int .i64 b.y) := L9.B.cell 1
  have b29 : World.cell? w9 ⟨sb + 1, 2, none⟩ = some (.int .i64 b.z) := L9.B.cell 2
  have lb9 := L9.B.lt
  have x09 : World.cell? w9 ⟨sb + 1 + 1, 0, none⟩ = some (.int .i64 t) := L9.X.cell 0
  have x19 : World.cell? w9 ⟨sb + 1 + 1, 1, none⟩ = some (.int .i64 q) := L9.X.cell 1
  have lx9 := L9.X.lt
  have v0 := V9.cell 0
  have v1 := V9.cell 1
  have v2 := V9.cell 2
  have lv := V9.lt
  simp only [List.getElem?_toArray, List.getElem?_cons_zero, List.getElem?_cons_succ] at v0 v1 v2
  go_wp2_with fail
  have gB := Bx.mk w9 59 #[.int .i64 u2.x, .int .i64 u2.y, .int .i64 u2.z]
  have n10 := (New.refl w9).alloc (.cells #[.int .i64 u2.x, .int .i64 u2.y, .int .i64 u2.z] 59)
  obtain ⟨w10, hw10⟩ : ∃ W, w9.alloc (.cells #[.int .i64 u2.x, .int .i64 u2.y, .int .i64 u2.z] 59) = W := ⟨_, rfl⟩
  obtain ⟨gb, hgb⟩ : ∃ s, w9.heap.size = s := ⟨_, rfl⟩
  rw [hw10] at gB n10
  rw [hgb] at gB
  try rw [hw10]
  try rw [hgb]
  clear hw10 hgb
  have N10 := N9.trans n10
  have L10 := L9.keep n10
  have V10 := V9.keep n10
  clear n10 N9 L9 V9 v0 v1 v2 lv a09 a19 a29 b09 b19 b29 x09 x19 la9 lb9 lx9
  have a010 : World.cell? w10 ⟨sb, 0, none⟩ = some (.int .i64 a.x) := L10.A.cell 0
  have a110 : World.cell? w10 ⟨sb, 1, none⟩ = some (.int .i64 a.y) := L10.A.cell 1
  have a210 : World.cell? w10 ⟨sb, 2, none⟩ = some (.int .i64 a.z) := L10.A.cell 2
  have la10 := L10.A.lt
  have b010 : World.cell? w10 ⟨sb + 1, 0, none⟩ = some (.int .i64 b.x) := L10.B.cell 0
  have b110 : World.cell? w10 ⟨sb + 1, 1, none⟩ = some (.int .i64 b.y) := L10.B.cell 1
  have b210 : World.cell? w10 ⟨sb + 1, 2, none⟩ = some (.int .i64 b.z) := L10.B.cell 2
  have lb10 := L10.B.lt
  have x010 : World.cell? w10 ⟨sb + 1 + 1, 0, none⟩ = some (.int .i64 t) := L10.X.cell 0
  have x110 : World.cell? w10 ⟨sb + 1 + 1, 1, none⟩ = some (.int .i64 q) := L10.X.cell 1
  have lx10 := L10.X.lt
  have v0 := V10.cell 0
  have v1 := V10.cell 1
  have v2 := V10.cell 2
  have lv := V10.lt
  simp only [List.getElem?_toArray, List.getElem?_cons_zero, List.getElem?_cons_succ] at v0 v1 v2
  have g0 := gB.cell 0
  have g1 := gB.cell 1
  have g2 := gB.cell 2
  have lg := gB.lt
  simp only [List.getElem?_toArray, List.getElem?_cons_zero, List.getElem?_cons_succ] at g0 g1 g2
  refine (cSunAt_ok HS4.out HU4.out _).mono ?_
  rintro e w11 ⟨rfl, n11⟩
  have gC := gB.keep n11
  clear g0 g1 g2 lg gB
  have N11 := N10.trans n11
  have L11 := L10.keep n11
  have V11 := V10.keep n11
  clear n11 N10 L10 V10 v0 v1 v2 lv a010 a110 a210 b010 b110 b210 x010 x110 la10 lb10 lx10
  have a011 : World.cell? w11 ⟨sb, 0, none⟩ = some (.int .i64 a.x) := L11.A.cell 0
  have a111 : World.cell? w11 ⟨sb, 1, none⟩ = some (.int .i64 a.y) := L11.A.cell 1
  have a211 : World.cell? w11 ⟨sb, 2, none⟩ = some (.int .i64 a.z) := L11.A.cell 2
  have la11 := L11.A.lt
  have b011 : World.cell? w11 ⟨sb + 1, 0, none⟩ = some (.int .i64 b.x) := L11.B.cell 0
  have b111 : World.cell? w11 ⟨sb + 1, 1, none⟩ = some (.int .i64 b.y) := L11.B.cell 1
  have b211 : World.cell? w11 ⟨sb + 1, 2, none⟩ = some (.int .i64 b.z) := L11.B.cell 2
  have lb11 := L11.B.lt
  have x011 : World.cell? w11 ⟨sb + 1 + 1, 0, none⟩ = some (.int .i64 t) := L11.X.cell 0
  have x111 : World.cell? w11 ⟨sb + 1 + 1, 1, none⟩ = some (.int .i64 q) := L11.X.cell 1
  have lx11 := L11.X.lt
  have v0 := V11.cell 0
  have v1 := V11.cell 1
  have v2 := V11.cell 2
  have lv := V11.lt
  simp only [List.getElem?_toArray, List.getElem?_cons_zero, List.getElem?_cons_succ] at v0 v1 v2
  have g0 := gC.cell 0
  have g1 := gC.cell 1
  have g2 := gC.cell 2
  have lg := gC.lt
  simp only [List.getElem?_toArray, List.getElem?_cons_zero, List.getElem?_cons_succ] at g0 g1 g2
  go_wp2_with fail
  have hB := Bx.mk w11 59 #[.int .i64 u.x, .int .i64 u.y, .int .i64 u.z]
  have n12 := (New.refl w11).alloc (.cells #[.int .i64 u.x, .int .i64 u.y, .int .i64 u.z] 59)
  obtain ⟨w12, hw12⟩ : ∃ W, w11.alloc (.cells #[.int .i64 u.x, .int .i64 u.y, .int .i64 u.z] 59) = W := ⟨_, rfl⟩
  obtain ⟨hb, hhb⟩ : ∃ s, w11.heap.size = s := ⟨_, rfl⟩
  rw [hw12] at hB n12
  rw [hhb] at hB
  try rw [hw12]
  try rw [hhb]
  clear hw12 hhb
  have gD := gC.keep n12
  clear g0 g1 g2 lg gC
  have N12 := N11.trans n12
  have L12 := L11.keep n12
  have V12 := V11.keep n12
  clear n12 N11 L11 V11 v0 v1 v2 lv a011 a111 a211 b011 b111 b211 x011 x111 la11 lb11 lx11
  have a012 : World.cell? w12 ⟨sb, 0, none⟩ = some (.int .i64 a.x) := L12.A.cell 0
  have a112 : World.cell? w12 ⟨sb, 1, none⟩ = some (.int .i64 a.y) := L12.A.cell 1
  have a212 : World.cell? w12 ⟨sb, 2, none⟩ = some (.int .i64 a.z) := L12.A.cell 2
  have la12 := L12.A.lt
  have b012 : World.cell? w12 ⟨sb + 1, 0, none⟩ = some (.int .i64 b.x) := L12.B.cell 0
  have b112 : World.cell? w12 ⟨sb + 1, 1, none⟩ = some (.int .i64 b.y) := L12.B.cell 1
  have b212 : World.cell? w12 ⟨sb + 1, 2, none⟩ = some (.int .i64 b.z) := L12.B.cell 2
  have lb12 := L12.B.lt
  have x012 : World.cell? w12 ⟨sb + 1 + 1, 0, none⟩ = some (.int .i64 t) := L12.X.cell 0
  have x112 : World.cell? w12 ⟨sb + 1 + 1, 1, none⟩ = some (.int .i64 q) := L12.X.cell 1
  have lx12 := L12.X.lt
  have v0 := V12.cell 0
  have v1 := V12.cell 1
  have v2 := V12.cell 2
  have lv := V12.lt
  simp only [List.getElem?_toArray, List.getElem?_cons_zero, List.getElem?_cons_succ] at v0 v1 v2
  have g0 := gD.cell 0
  have g1 := gD.cell 1
  have g2 := gD.cell 2
  have lg := gD.lt
  simp only [List.getElem?_toArray, List.getElem?_cons_zero, List.getElem?_cons_succ] at g0 g1 g2
  have h0 := hB.cell 0
  have h1 := hB.cell 1
  have h2 := hB.cell 2
  have lh := hB.lt
  simp only [List.getElem?_toArray, List.getElem?_cons_zero, List.getElem?_cons_succ] at h0 h1 h2
  refine (refVec_is HV2.out _).mono ?_
  rintro e w13 ⟨rfl, n13⟩
  have gE := gD.keep n13
  have hE := hB.keep n13
  clear g0 g1 g2 lg gD h0 h1 h2 lh hB
  have N13 := N12.trans n13
  have L13 := L12.keep n13
  have V13 := V12.keep n13
  clear n13 N12 L12 V12 v0 v1 v2 lv a012 a112 a212 b012 b112 b212 x012 x112 la12 lb12 lx12
  have a013 : World.cell? w13 ⟨sb, 0, none⟩ = some (.int .i64 a.x) := L13.A.cell 0
  have a113 : World.cell? w13 ⟨sb, 1, none⟩ = some (.int .i64 a.y) := L13.A.cell 1
  have a213 : World.cell? w13 ⟨sb, 2, none⟩ = some (.int .i64 a.z) := L13.A.cell 2
  have la13 := L13.A.lt
  have b013 : World.cell? w13 ⟨sb + 1, 0, none⟩ = some (.int .i64 b.x) := L13.B.cell 0
  have b113 : World.cell? w13 ⟨sb + 1, 1, none⟩ = some (.int .i64 b.y) := L13.B.cell 1
  have b213 : World.cell? w13 ⟨sb + 1, 2, none⟩ = some (.int .i64 b.z) := L13.B.cell 2
  have lb13 := L13.B.lt
  have x013 : World.cell? w13 ⟨sb + 1 + 1, 0, none⟩ = some (.int .i64 t) := L13.X.cell 0
  have x113 : World.cell? w13 ⟨sb + 1 + 1, 1, none⟩ = some (.int .i64 q) := L13.X.cell 1
  have lx13 := L13.X.lt
  have v0 := V13.cell 0
  have v1 := V13.cell 1
  have v2 := V13.cell 2
  have lv := V13.lt
  simp only [List.getElem?_toArray, List.getElem?_cons_zero, List.getElem?_cons_succ] at v0 v1 v2
  have g0 := gE.cell 0
  have g1 := gE.cell 1
  have g2 := gE.cell 2
  have lg := gE.lt
  simp only [List.getElem?_toArray, List.getElem?_cons_zero, List.getElem?_cons_succ] at g0 g1 g2
  have h0 := hE.cell 0
  have h1 := hE.cell 1
  have h2 := hE.cell 2
  have lh := hE.lt
  simp only [List.getElem?_toArray, List.getElem?_cons_zero, List.getElem?_cons_succ] at h0 h1 h2
  go_wp2_with fail
  go_ret
  exact ⟨rfl, N13⟩
set_option maxRecDepth 100000 in
set_option maxHeartbeats 8000000 in
theorem light_B3T2n (a b : Ve) (t q : Int) (w : World) (ha : vecE a = 0) (p : Int) (hb : vecE b = 0) (hw : inR t 0 4000000 = true) (hp : litS a b t = p) (u : Ve) (hu : sunS a (q % 4).toNat = u) (ht : inR q 0 1000000000000 = true) (u2 : Ve) (hu2 : sunS a ((q + 2) % 4).toNat = u2) (hl : q ≤ 999999999996) (h2 : vecE u2 = 0) (hz : a.z = 0) (p1 p2 : Int) (hlu : litE u b 0 = 0) (hp1 : litS u b 0 = p1) (hlu2 : litE u2 b 0 = 0) (hp2 : litS u2 b 0 = p2) (hp3 : 0 ≤ p1 ∧ p1 ≤ 2) (hp4 : 0 ≤ p2 ∧ p2 ≤ 2) (hsum : p1 + p2 = 2) :
    Calls Try.prog 5 #[.agg #[.int .i64 a.x, .int .i64 a.y, .int .i64 a.z], .agg #[.int .i64 b.x, .int .i64 b.y, .int .i64 b.z], .agg #[.int .i64 t, .int .i64 q]] w fun e w' => e = .returned (.bool true) ∧ New w w' := by
  have N0 := (((New.refl w).alloc (.cells #[.int .i64 a.x, .int .i64 a.y, .int .i64 a.z] 59)).alloc (.cells #[.int .i64 b.x, .int .i64 b.y, .int .i64 b.z] 59)).alloc (.cells #[.int .i64 t, .int .i64 q] 60)
  have L0 : LBox w.heap.size a b t q _ := ⟨((Bx.mk w 59 #[.int .i64 a.x, .int .i64 a.y, .int .i64 a.z]).alloc (.cells #[.int .i64 b.x, .int .i64 b.y, .int .i64 b.z] 59)).alloc (.cells #[.int .i64 t, .int .i64 q] 60),
    (Bx.mk_at _ 59 #[.int .i64 b.x, .int .i64 b.y, .int .i64 b.z] (w.heap.size + 1) (by simp)).alloc _, Bx.mk_at _ 60 #[.int .i64 t, .int .i64 q] (w.heap.size + 1 + 1) (by simp)⟩
  obtain ⟨W0, hW0⟩ : ∃ W, (((w.alloc (.cells #[.int .i64 a.x, .int .i64 a.y, .int .i64 a.z] 59)).alloc (.cells #[.int .i64 b.x, .int .i64 b.y, .int .i64 b.z] 59)).alloc (.cells #[.int .i64 t, .int .i64 q] 60)) = W := ⟨_, rfl⟩
  rw [hW0] at N0 L0
  have HA := Lib.hid ha
  have HU2 := Lib.hid hu2
  have HU4 := Lib.hid (show sunS a ((q + 4) % 4).toNat = u by rw [show (q + 4) % 4 = q % 4 by omega]; exact hu)
  have HS2 := Lib.hid (show sunE a (q + 2) = 0 by
    have h5 := inR_iff.1 ht
    have h6 : inR (q + 2) 0 1000000000000 = true := inR_iff.2 ⟨by omega, by omega⟩
    simp [sunE, firstE, ha, h6, errU])
  have HS4 := Lib.hid (show sunE a (q + 4) = 0 by
    have h5 := inR_iff.1 ht
    have h6 : inR (q + 4) 0 1000000000000 = true := inR_iff.2 ⟨by omega, by omega⟩
    simp [sunE, firstE, ha, h6, errU])
  have HV2 := Lib.hid h2
  clear h2
  have bz1 : (a.z != 0) = false := by simpa using hz
  clear hz
  have HLU := Lib.hid hlu
  have HP1 := Lib.hid hp1
  have HLU2 := Lib.hid hlu2
  have HP2 := Lib.hid hp2
  have bsum : (p1 + p2 == 2) = true := by simpa using hsum
  clear hlu hp1 hlu2 hp2 hsum
  have HLE := Lib.hid (show litE a b t = 0 by simp [litE, firstE, ha, hb, hw, errU])
  have HB := Lib.hid hb
  have HW := Lib.hid hw
  have HPV := Lib.hid hp
  have HAV3 := Lib.hid (show (-1000 ≤ a.x ∧ a.x ≤ 1000) ∧ (-1000 ≤ a.y ∧ a.y ≤ 1000) ∧ (-1000 ≤ a.z ∧ a.z ≤ 1000) from ⟨(vecE_zero ha).1, (vecE_zero ha).2.1, (vecE_zero ha).2.2.1⟩)
  have HBV3 := Lib.hid (show (-1000 ≤ b.x ∧ b.x ≤ 1000) ∧ (-1000 ≤ b.y ∧ b.y ≤ 1000) ∧ (-1000 ≤ b.z ∧ b.z ≤ 1000) from ⟨(vecE_zero hb).1, (vecE_zero hb).2.1, (vecE_zero hb).2.2.1⟩)
  have htt := inR_iff.1 hw
  have HTT := Lib.hid htt
  have huu : ∀ W, (binOp .neq 59 (.agg #[.int .i64 u.x, .int .i64 u.y, .int .i64 u.z]) (.agg #[.int .i64 u.x, .int .i64 u.y, .int .i64 u.z])).run Try.prog W = .ok (.bool false) W := fun W => by rw [neq_vecG]; simp
  have HSE := Lib.hid (show sunE a q = 0 by simp [sunE, firstE, ha, ht, errU])
  have HT := Lib.hid (show tick q = true from ht)
  have HAV3 := Lib.hid (show (-1000 ≤ a.x ∧ a.x ≤ 1000) ∧ (-1000 ≤ a.y ∧ a.y ≤ 1000) ∧ (-1000 ≤ a.z ∧ a.z ≤ 1000) from ⟨(vecE_zero ha).1, (vecE_zero ha).2.1, (vecE_zero ha).2.2.1⟩)
  have hq := inR_iff.1 ht
  have HQ := Lib.hid hq
  have HU := Lib.hid hu
  clear ha hb hw ht
  go_enter Try.func5, Try.ntmps5
  go_wp2_with fail
  try rw [hW0]
  clear hW0
  refine (awake6_any _).mono ?_
  rintro e w1 ⟨rfl, n1⟩
  have N1 := N0.trans n1
  have L1 := L0.keep n1
  clear n1 N0 L0
  obtain ⟨sb, hsb⟩ : ∃ s, w.heap.size = s := ⟨_, rfl⟩
  rw [hsb] at L1
  try rw [hsb]
  have a01 : World.cell? w1 ⟨sb, 0, none⟩ = some (.int .i64 a.x) := L1.A.cell 0
  have a11 : World.cell? w1 ⟨sb, 1, none⟩ = some (.int .i64 a.y) := L1.A.cell 1
  have a21 : World.cell? w1 ⟨sb, 2, none⟩ = some (.int .i64 a.z) := L1.A.cell 2
  have la1 := L1.A.lt
  have b01 : World.cell? w1 ⟨sb + 1, 0, none⟩ = some (.int .i64 b.x) := L1.B.cell 0
  have b11 : World.cell? w1 ⟨sb + 1, 1, none⟩ = some (.int .i64 b.y) := L1.B.cell 1
  have b21 : World.cell? w1 ⟨sb + 1, 2, none⟩ = some (.int .i64 b.z) := L1.B.cell 2
  have lb1 := L1.B.lt
  have x01 : World.cell? w1 ⟨sb + 1 + 1, 0, none⟩ = some (.int .i64 t) := L1.X.cell 0
  have x11 : World.cell? w1 ⟨sb + 1 + 1, 1, none⟩ = some (.int .i64 q) := L1.X.cell 1
  have lx1 := L1.X.lt
  go_wp2_with fail
  refine (cLitAt_ok HLE.out hp _).mono ?_
  rintro e w2 ⟨rfl, n2⟩
  have N2 := N1.trans n2
  have L2 := L1.keep n2
  clear n2 N1 L1 a01 a11 a21 b01 b11 b21 x01 x11 la1 lb1 lx1
  have a02 : World.cell? w2 ⟨sb, 0, none⟩ = some (.int .i64 a.x) := L2.A.cell 0
  have a12 : World.cell? w2 ⟨sb, 1, none⟩ = some (.int .i64 a.y) := L2.A.cell 1
  have a22 : World.cell? w2 ⟨sb, 2, none⟩ = some (.int .i64 a.z) := L2.A.cell 2
  have la2 := L2.A.lt
  have b02 : World.cell? w2 ⟨sb + 1, 0, none⟩ = some (.int .i64 b.x) := L2.B.cell 0
  have b12 : World.cell? w2 ⟨sb + 1, 1, none⟩ = some (.int .i64 b.y) := L2.B.cell 1
  have b22 : World.cell? w2 ⟨sb + 1, 2, none⟩ = some (.int .i64 b.z) := L2.B.cell 2
  have lb2 := L2.B.lt
  have x02 : World.cell? w2 ⟨sb + 1 + 1, 0, none⟩ = some (.int .i64 t) := L2.X.cell 0
  have x12 : World.cell? w2 ⟨sb + 1 + 1, 1, none⟩ = some (.int .i64 q) := L2.X.cell 1
  have lx2 := L2.X.lt
  go_wp2_with fail
  refine (cSunAt_ok HSE.out hu _).mono ?_
  rintro e w3 ⟨rfl, n3⟩
  have N3 := N2.trans n3
  have L3 := L2.keep n3
  clear n3 N2 L2 a02 a12 a22 b02 b12 b22 x02 x12 la2 lb2 lx2
  have a03 : World.cell? w3 ⟨sb, 0, none⟩ = some (.int .i64 a.x) := L3.A.cell 0
  have a13 : World.cell? w3 ⟨sb, 1, none⟩ = some (.int .i64 a.y) := L3.A.cell 1
  have a23 : World.cell? w3 ⟨sb, 2, none⟩ = some (.int .i64 a.z) := L3.A.cell 2
  have la3 := L3.A.lt
  have b03 : World.cell? w3 ⟨sb + 1, 0, none⟩ = some (.int .i64 b.x) := L3.B.cell 0
  have b13 : World.cell? w3 ⟨sb + 1, 1, none⟩ = some (.int .i64 b.y) := L3.B.cell 1
  have b23 : World.cell? w3 ⟨sb + 1, 2, none⟩ = some (.int .i64 b.z) := L3.B.cell 2
  have lb3 := L3.B.lt
  have x03 : World.cell? w3 ⟨sb + 1 + 1, 0, none⟩ = some (.int .i64 t) := L3.X.cell 0
  have x13 : World.cell? w3 ⟨sb + 1 + 1, 1, none⟩ = some (.int .i64 q) := L3.X.cell 1
  have lx3 := L3.X.lt
  go_wp2_with fail
  have V4 := Bx.mk w3 59 #[.int .i64 u.x, .int .i64 u.y, .int .i64 u.z]
  have n4 := (New.refl w3).alloc (.cells #[.int .i64 u.x, .int .i64 u.y, .int .i64 u.z] 59)
  have N4 := N3.trans n4
  have L4 := L3.keep n4
  obtain ⟨W4, hW4⟩ : ∃ W, w3.alloc (.cells #[.int .i64 u.x, .int .i64 u.y, .int .i64 u.z] 59) = W := ⟨_, rfl⟩
  obtain ⟨vb, hvb⟩ : ∃ s, w3.heap.size = s := ⟨_, rfl⟩
  rw [hW4] at V4 N4 L4
  rw [hvb] at V4
  try rw [hW4]
  try rw [hvb]
  clear n4 N3 L3 hW4 hvb a03 a13 a23 b03 b13 b23 x03 x13 la3 lb3 lx3
  refine (refVec_is HA.out _).mono ?_
  rintro e w5 ⟨rfl, n5⟩
  have N5 := N4.trans n5
  have L5 := L4.keep n5
  have V5 := V4.keep n5
  clear n5 N4 L4 V4
  have a05 : World.cell? w5 ⟨sb, 0, none⟩ = some (.int .i64 a.x) := L5.A.cell 0
  have a15 : World.cell? w5 ⟨sb, 1, none⟩ = some (.int .i64 a.y) := L5.A.cell 1
  have a25 : World.cell? w5 ⟨sb, 2, none⟩ = some (.int .i64 a.z) := L5.A.cell 2
  have la5 := L5.A.lt
  have b05 : World.cell? w5 ⟨sb + 1, 0, none⟩ = some (.int .i64 b.x) := L5.B.cell 0
  have b15 : World.cell? w5 ⟨sb + 1, 1, none⟩ = some (.int .i64 b.y) := L5.B.cell 1
  have b25 : World.cell? w5 ⟨sb + 1, 2, none⟩ = some (.int .i64 b.z) := L5.B.cell 2
  have lb5 := L5.B.lt
  have x05 : World.cell? w5 ⟨sb + 1 + 1, 0, none⟩ = some (.int .i64 t) := L5.X.cell 0
  have x15 : World.cell? w5 ⟨sb + 1 + 1, 1, none⟩ = some (.int .i64 q) := L5.X.cell 1
  have lx5 := L5.X.lt
  have v0 := V5.cell 0
  have v1 := V5.cell 1
  have v2 := V5.cell 2
  have lv := V5.lt
  simp only [List.getElem?_toArray, List.getElem?_cons_zero, List.getElem?_cons_succ] at v0 v1 v2
  go_wp2_with fail
  refine (refVec_is HB.out _).mono ?_
  rintro e w6 ⟨rfl, n6⟩
  have N6 := N5.trans n6
  have L6 := L5.keep n6
  have V6 := V5.keep n6
  clear n6 N5 L5 V5 v0 v1 v2 lv a05 a15 a25 b05 b15 b25 x05 x15 la5 lb5 lx5
  have a06 : World.cell? w6 ⟨sb, 0, none⟩ = some (.int .i64 a.x) := L6.A.cell 0
  have a16 : World.cell? w6 ⟨sb, 1, none⟩ = some (.int .i64 a.y) := L6.A.cell 1
  have a26 : World.cell? w6 ⟨sb, 2, none⟩ = some (.int .i64 a.z) := L6.A.cell 2
  have la6 := L6.A.lt
  have b06 : World.cell? w6 ⟨sb + 1, 0, none⟩ = some (.int .i64 b.x) := L6.B.cell 0
  have b16 : World.cell? w6 ⟨sb + 1, 1, none⟩ = some (.int .i64 b.y) := L6.B.cell 1
  have b26 : World.cell? w6 ⟨sb + 1, 2, none⟩ = some (.int .i64 b.z) := L6.B.cell 2
  have lb6 := L6.B.lt
  have x06 : World.cell? w6 ⟨sb + 1 + 1, 0, none⟩ = some (.int .i64 t) := L6.X.cell 0
  have x16 : World.cell? w6 ⟨sb + 1 + 1, 1, none⟩ = some (.int .i64 q) := L6.X.cell 1
  have lx6 := L6.X.lt
  have v0 := V6.cell 0
  have v1 := V6.cell 1
  have v2 := V6.cell 2
  have lv := V6.lt
  simp only [List.getElem?_toArray, List.getElem?_cons_zero, List.getElem?_cons_succ] at v0 v1 v2
  go_wp2_with (first | (go_at_call 19; refine (bWithin_any _ _ _ _).mono ?_; rintro e w' ⟨rfl, rfl⟩; rw [HW.out]) | (go_at_call 36; refine (bIsTick_any _ _).mono ?_; rintro e w' ⟨rfl, rfl⟩; rw [HT.out]))
  refine (refLit_is HPV.out _ HAV3.out HBV3.out HTT.out).mono ?_
  rintro e w7 ⟨rfl, n7⟩
  have N7 := N6.trans n7
  have L7 := L6.keep n7
  have V7 := V6.keep n7
  clear n7 N6 L6 V6 v0 v1 v2 lv a06 a16 a26 b06 b16 b26 x06 x16 la6 lb6 lx6
  have a07 : World.cell? w7 ⟨sb, 0, none⟩ = some (.int .i64 a.x) := L7.A.cell 0
  have a17 : World.cell? w7 ⟨sb, 1, none⟩ = some (.int .i64 a.y) := L7.A.cell 1
  have a27 : World.cell? w7 ⟨sb, 2, none⟩ = some (.int .i64 a.z) := L7.A.cell 2
  have la7 := L7.A.lt
  have b07 : World.cell? w7 ⟨sb + 1, 0, none⟩ = some (.int .i64 b.x) := L7.B.cell 0
  have b17 : World.cell? w7 ⟨sb + 1, 1, none⟩ = some (.int .i64 b.y) := L7.B.cell 1
  have b27 : World.cell? w7 ⟨sb + 1, 2, none⟩ = some (.int .i64 b.z) := L7.B.cell 2
  have lb7 := L7.B.lt
  have x07 : World.cell? w7 ⟨sb + 1 + 1, 0, none⟩ = some (.int .i64 t) := L7.X.cell 0
  have x17 : World.cell? w7 ⟨sb + 1 + 1, 1, none⟩ = some (.int .i64 q) := L7.X.cell 1
  have lx7 := L7.X.lt
  have v0 := V7.cell 0
  have v1 := V7.cell 1
  have v2 := V7.cell 2
  have lv := V7.lt
  simp only [List.getElem?_toArray, List.getElem?_cons_zero, List.getElem?_cons_succ] at v0 v1 v2
  go_wp2_with (first | (go_at_call 19; refine (bWithin_any _ _ _ _).mono ?_; rintro e w' ⟨rfl, rfl⟩; rw [HW.out]) | (go_at_call 36; refine (bIsTick_any _ _).mono ?_; rintro e w' ⟨rfl, rfl⟩; rw [HT.out]))
  (refine wp_region_new (by kernel_rfl) (by kernel_rfl) ?_; (repeat (go_big_quiet_step ((first | (go_at_call 37; with_reducible exact quiet_new (refSun_is HU.out _ HAV3.out HQ.out)))))); refine wpQuiet_nil ?_)
  intro w8 n8
  have N8 := N7.trans n8
  have L8 := L7.keep n8
  have V8 := V7.keep n8
  clear n8 N7 L7 V7 v0 v1 v2 lv a07 a17 a27 b07 b17 b27 x07 x17 la7 lb7 lx7
  have a08 : World.cell? w8 ⟨sb, 0, none⟩ = some (.int .i64 a.x) := L8.A.cell 0
  have a18 : World.cell? w8 ⟨sb, 1, none⟩ = some (.int .i64 a.y) := L8.A.cell 1
  have a28 : World.cell? w8 ⟨sb, 2, none⟩ = some (.int .i64 a.z) := L8.A.cell 2
  have la8 := L8.A.lt
  have b08 : World.cell? w8 ⟨sb + 1, 0, none⟩ = some (.int .i64 b.x) := L8.B.cell 0
  have b18 : World.cell? w8 ⟨sb + 1, 1, none⟩ = some (.int .i64 b.y) := L8.B.cell 1
  have b28 : World.cell? w8 ⟨sb + 1, 2, none⟩ = some (.int .i64 b.z) := L8.B.cell 2
  have lb8 := L8.B.lt
  have x08 : World.cell? w8 ⟨sb + 1 + 1, 0, none⟩ = some (.int .i64 t) := L8.X.cell 0
  have x18 : World.cell? w8 ⟨sb + 1 + 1, 1, none⟩ = some (.int .i64 q) := L8.X.cell 1
  have lx8 := L8.X.lt
  have v0 := V8.cell 0
  have v1 := V8.cell 1
  have v2 := V8.cell 2
  have lv := V8.lt
  simp only [List.getElem?_toArray, List.getElem?_cons_zero, List.getElem?_cons_succ] at v0 v1 v2
  go_wp2_with fail
  refine (cSunAt_ok HS2.out HU2.out _).mono ?_
  rintro e w9 ⟨rfl, n9⟩
  have N9 := N8.trans n9
  have L9 := L8.keep n9
  have V9 := V8.keep n9
  clear n9 N8 L8 V8 v0 v1 v2 lv a08 a18 a28 b08 b18 b28 x08 x18 la8 lb8 lx8
  have a09 : World.cell? w9 ⟨sb, 0, none⟩ = some (.int .i64 a.x) := L9.A.cell 0
  have a19 : World.cell? w9 ⟨sb, 1, none⟩ = some (.int .i64 a.y) := L9.A.cell 1
  have a29 : World.cell? w9 ⟨sb, 2, none⟩ = some (.int .i64 a.z) := L9.A.cell 2
  have la9 := L9.A.lt
  have b09 : World.cell? w9 ⟨sb + 1, 0, none⟩ = some (.int .i64 b.x) := L9.B.cell 0
  have b19 : World.cell? w9 ⟨sb + 1, 1, none⟩ = some (.int .i64 b.y) := L9.B.cell 1
  have b29 : World.cell? w9 ⟨sb + 1, 2, none⟩ = some (.int .i64 b.z) := L9.B.cell 2
  have lb9 := L9.B.lt
  have x09 : World.cell? w9 ⟨sb + 1 + 1, 0, none⟩ = some (.int .i64 t) := L9.X.cell 0
  have x19 : World.cell? w9 ⟨sb + 1 + 1, 1, none⟩ = some (.int .i64 q) := L9.X.cell 1
  have lx9 := L9.X.lt
  have v0 := V9.cell 0
  have v1 := V9.cell 1
  have v2 := V9.cell 2
  have lv := V9.lt
  simp only [List.getElem?_toArray, List.getElem?_cons_zero, List.getElem?_cons_succ] at v0 v1 v2
  go_wp2_with fail
  have gB := Bx.mk w9 59 #[.int .i64 u2.x, .int .i64 u2.y, .int .i64 u2.z]
  have n10 := (New.refl w9).alloc (.cells #[.int .i64 u2.x, .int .i64 u2.y, .int .i64 u2.z] 59)
  obtain ⟨w10, hw10⟩ : ∃ W, w9.alloc (.cells #[.int .i64 u2.x, .int .i64 u2.y, .int .i64 u2.z] 59) = W := ⟨_, rfl⟩
  obtain ⟨gb, hgb⟩ : ∃ s, w9.heap.size = s := ⟨_, rfl⟩
  rw [hw10] at gB n10
  rw [hgb] at gB
  try rw [hw10]
  try rw [hgb]
  clear hw10 hgb
  have N10 := N9.trans n10
  have L10 := L9.keep n10
  have V10 := V9.keep n10
  clear n10 N9 L9 V9 v0 v1 v2 lv a09 a19 a29 b09 b19 b29 x09 x19 la9 lb9 lx9
  have a010 : World.cell? w10 ⟨sb, 0, none⟩ = some (.int .i64 a.x) := L10.A.cell 0
  have a110 : World.cell? w10 ⟨sb, 1, none⟩ = some (.int .i64 a.y) := L10.A.cell 1
  have a210 : World.cell? w10 ⟨sb, 2, none⟩ = some (.int .i64 a.z) := L10.A.cell 2
  have la10 := L10.A.lt
  have b010 : World.cell? w10 ⟨sb + 1, 0, none⟩ = some (.int .i64 b.x) := L10.B.cell 0
  have b110 : World.cell? w10 ⟨sb + 1, 1, none⟩ = some (.int .i64 b.y) := L10.B.cell 1
  have b210 : World.cell? w10 ⟨sb + 1, 2, none⟩ = some (.int .i64 b.z) := L10.B.cell 2
  have lb10 := L10.B.lt
  have x010 : World.cell? w10 ⟨sb + 1 + 1, 0, none⟩ = some (.int .i64 t) := L10.X.cell 0
  have x110 : World.cell? w10 ⟨sb + 1 + 1, 1, none⟩ = some (.int .i64 q) := L10.X.cell 1
  have lx10 := L10.X.lt
  have v0 := V10.cell 0
  have v1 := V10.cell 1
  have v2 := V10.cell 2
  have lv := V10.lt
  simp only [List.getElem?_toArray, List.getElem?_cons_zero, List.getElem?_cons_succ] at v0 v1 v2
  have g0 := gB.cell 0
  have g1 := gB.cell 1
  have g2 := gB.cell 2
  have lg := gB.lt
  simp only [List.getElem?_toArray, List.getElem?_cons_zero, List.getElem?_cons_succ] at g0 g1 g2
  refine (cSunAt_ok HS4.out HU4.out _).mono ?_
  rintro e w11 ⟨rfl, n11⟩
  have gC := gB.keep n11
  clear g0 g1 g2 lg gB
  have N11 := N10.trans n11
  have L11 := L10.keep n11
  have V11 := V10.keep n11
  clear n11 N10 L10 V10 v0 v1 v2 lv a010 a110 a210 b010 b110 b210 x010 x110 la10 lb10 lx10
  have a011 : World.cell? w11 ⟨sb, 0, none⟩ = some (.int .i64 a.x) := L11.A.cell 0
  have a111 : World.cell? w11 ⟨sb, 1, none⟩ = some (.int .i64 a.y) := L11.A.cell 1
  have a211 : World.cell? w11 ⟨sb, 2, none⟩ = some (.int .i64 a.z) := L11.A.cell 2
  have la11 := L11.A.lt
  have b011 : World.cell? w11 ⟨sb + 1, 0, none⟩ = some (.int .i64 b.x) := L11.B.cell 0
  have b111 : World.cell? w11 ⟨sb + 1, 1, none⟩ = some (.int .i64 b.y) := L11.B.cell 1
  have b211 : World.cell? w11 ⟨sb + 1, 2, none⟩ = some (.int .i64 b.z) := L11.B.cell 2
  have lb11 := L11.B.lt
  have x011 : World.cell? w11 ⟨sb + 1 + 1, 0, none⟩ = some (.int .i64 t) := L11.X.cell 0
  have x111 : World.cell? w11 ⟨sb + 1 + 1, 1, none⟩ = some (.int .i64 q) := L11.X.cell 1
  have lx11 := L11.X.lt
  have v0 := V11.cell 0
  have v1 := V11.cell 1
  have v2 := V11.cell 2
  have lv := V11.lt
  simp only [List.getElem?_toArray, List.getElem?_cons_zero, List.getElem?_cons_succ] at v0 v1 v2
  have g0 := gC.cell 0
  have g1 := gC.cell 1
  have g2 := gC.cell 2
  have lg := gC.lt
  simp only [List.getElem?_toArray, List.getElem?_cons_zero, List.getElem?_cons_succ] at g0 g1 g2
  go_wp2_with fail
  have hB := Bx.mk w11 59 #[.int .i64 u.x, .int .i64 u.y, .int .i64 u.z]
  have n12 := (New.refl w11).alloc (.cells #[.int .i64 u.x, .int .i64 u.y, .int .i64 u.z] 59)
  obtain ⟨w12, hw12⟩ : ∃ W, w11.alloc (.cells #[.int .i64 u.x, .int .i64 u.y, .int .i64 u.z] 59) = W := ⟨_, rfl⟩
  obtain ⟨hb, hhb⟩ : ∃ s, w11.heap.size = s := ⟨_, rfl⟩
  rw [hw12] at hB n12
  rw [hhb] at hB
  try rw [hw12]
  try rw [hhb]
  clear hw12 hhb
  have gD := gC.keep n12
  clear g0 g1 g2 lg gC
  have N12 := N11.trans n12
  have L12 := L11.keep n12
  have V12 := V11.keep n12
  clear n12 N11 L11 V11 v0 v1 v2 lv a011 a111 a211 b011 b111 b211 x011 x111 la11 lb11 lx11
  have a012 : World.cell? w12 ⟨sb, 0, none⟩ = some (.int .i64 a.x) := L12.A.cell 0
  have a112 : World.cell? w12 ⟨sb, 1, none⟩ = some (.int .i64 a.y) := L12.A.cell 1
  have a212 : World.cell? w12 ⟨sb, 2, none⟩ = some (.int .i64 a.z) := L12.A.cell 2
  have la12 := L12.A.lt
  have b012 : World.cell? w12 ⟨sb + 1, 0, none⟩ = some (.int .i64 b.x) := L12.B.cell 0
  have b112 : World.cell? w12 ⟨sb + 1, 1, none⟩ = some (.int .i64 b.y) := L12.B.cell 1
  have b212 : World.cell? w12 ⟨sb + 1, 2, none⟩ = some (.int .i64 b.z) := L12.B.cell 2
  have lb12 := L12.B.lt
  have x012 : World.cell? w12 ⟨sb + 1 + 1, 0, none⟩ = some (.int .i64 t) := L12.X.cell 0
  have x112 : World.cell? w12 ⟨sb + 1 + 1, 1, none⟩ = some (.int .i64 q) := L12.X.cell 1
  have lx12 := L12.X.lt
  have v0 := V12.cell 0
  have v1 := V12.cell 1
  have v2 := V12.cell 2
  have lv := V12.lt
  simp only [List.getElem?_toArray, List.getElem?_cons_zero, List.getElem?_cons_succ] at v0 v1 v2
  have g0 := gD.cell 0
  have g1 := gD.cell 1
  have g2 := gD.cell 2
  have lg := gD.lt
  simp only [List.getElem?_toArray, List.getElem?_cons_zero, List.getElem?_cons_succ] at g0 g1 g2
  have h0 := hB.cell 0
  have h1 := hB.cell 1
  have h2 := hB.cell 2
  have lh := hB.lt
  simp only [List.getElem?_toArray, List.getElem?_cons_zero, List.getElem?_cons_succ] at h0 h1 h2
  refine (refVec_is HV2.out _).mono ?_
  rintro e w13 ⟨rfl, n13⟩
  have gE := gD.keep n13
  have hE := hB.keep n13
  clear g0 g1 g2 lg gD h0 h1 h2 lh hB
  have N13 := N12.trans n13
  have L13 := L12.keep n13
  have V13 := V12.keep n13
  clear n13 N12 L12 V12 v0 v1 v2 lv a012 a112 a212 b012 b112 b212 x012 x112 la12 lb12 lx12
  have a013 : World.cell? w13 ⟨sb, 0, none⟩ = some (.int .i64 a.x) := L13.A.cell 0
  have a113 : World.cell? w13 ⟨sb, 1, none⟩ = some (.int .i64 a.y) := L13.A.cell 1
  have a213 : World.cell? w13 ⟨sb, 2, none⟩ = some (.int .i64 a.z) := L13.A.cell 2
  have la13 := L13.A.lt
  have b013 : World.cell? w13 ⟨sb + 1, 0, none⟩ = some (.int .i64 b.x) := L13.B.cell 0
  have b113 : World.cell? w13 ⟨sb + 1, 1, none⟩ = some (.int .i64 b.y) := L13.B.cell 1
  have b213 : World.cell? w13 ⟨sb + 1, 2, none⟩ = some (.int .i64 b.z) := L13.B.cell 2
  have lb13 := L13.B.lt
  have x013 : World.cell? w13 ⟨sb + 1 + 1, 0, none⟩ = some (.int .i64 t) := L13.X.cell 0
  have x113 : World.cell? w13 ⟨sb + 1 + 1, 1, none⟩ = some (.int .i64 q) := L13.X.cell 1
  have lx13 := L13.X.lt
  have v0 := V13.cell 0
  have v1 := V13.cell 1
  have v2 := V13.cell 2
  have lv := V13.lt
  simp only [List.getElem?_toArray, List.getElem?_cons_zero, List.getElem?_cons_succ] at v0 v1 v2
  have g0 := gE.cell 0
  have g1 := gE.cell 1
  have g2 := gE.cell 2
  have lg := gE.lt
  simp only [List.getElem?_toArray, List.getElem?_cons_zero, List.getElem?_cons_succ] at g0 g1 g2
  have h0 := hE.cell 0
  have h1 := hE.cell 1
  have h2 := hE.cell 2
  have lh := hE.lt
  simp only [List.getElem?_toArray, List.getElem?_cons_zero, List.getElem?_cons_succ] at h0 h1 h2
  go_wp2_with fail
  refine (cLitAt_ok HLU.out HP1.out _).mono ?_
  rintro e w14 ⟨rfl, n14⟩
  have gF := gE.keep n14
  clear g0 g1 g2 lg gE h0 h1 h2 lh hE
  have N14 := N13.trans n14
  have L14 := L13.keep n14
  have V14 := V13.keep n14
  clear n14 N13 L13 V13 v0 v1 v2 lv a013 a113 a213 b013 b113 b213 x013 x113 la13 lb13 lx13
  have a014 : World.cell? w14 ⟨sb, 0, none⟩ = some (.int .i64 a.x) := L14.A.cell 0
  have a114 : World.cell? w14 ⟨sb, 1, none⟩ = some (.int .i64 a.y) := L14.A.cell 1
  have a214 : World.cell? w14 ⟨sb, 2, none⟩ = some (.int .i64 a.z) := L14.A.cell 2
  have la14 := L14.A.lt
  have b014 : World.cell? w14 ⟨sb + 1, 0, none⟩ = some (.int .i64 b.x) := L14.B.cell 0
  have b114 : World.cell? w14 ⟨sb + 1, 1, none⟩ = some (.int .i64 b.y) := L14.B.cell 1
  have b214 : World.cell? w14 ⟨sb + 1, 2, none⟩ = some (.int .i64 b.z) := L14.B.cell 2
  have lb14 := L14.B.lt
  have x014 : World.cell? w14 ⟨sb + 1 + 1, 0, none⟩ = some (.int .i64 t) := L14.X.cell 0
  have x114 : World.cell? w14 ⟨sb + 1 + 1, 1, none⟩ = some (.int .i64 q) := L14.X.cell 1
  have lx14 := L14.X.lt
  have v0 := V14.cell 0
  have v1 := V14.cell 1
  have v2 := V14.cell 2
  have lv := V14.lt
  simp only [List.getElem?_toArray, List.getElem?_cons_zero, List.getElem?_cons_succ] at v0 v1 v2
  have g0 := gF.cell 0
  have g1 := gF.cell 1
  have g2 := gF.cell 2
  have lg := gF.lt
  simp only [List.getElem?_toArray, List.getElem?_cons_zero, List.getElem?_cons_succ] at g0 g1 g2
  go_wp2_with fail
  refine (cLitAt_ok HLU2.out HP2.out _).mono ?_
  rintro e w15 ⟨rfl, n15⟩
  clear g0 g1 g2 lg gF
  have N15 := N14.trans n15
  have L15 := L14.keep n15
  have V15 := V14.keep n15
  clear n15 N14 L14 V14 v0 v1 v2 lv a014 a114 a214 b014 b114 b214 x014 x114 la14 lb14 lx14
  have a015 : World.cell? w15 ⟨sb, 0, none⟩ = some (.int .i64 a.x) := L15.A.cell 0
  have a115 : World.cell? w15 ⟨sb, 1, none⟩ = some (.int .i64 a.y) := L15.A.cell 1
  have a215 : World.cell? w15 ⟨sb, 2, none⟩ = some (.int .i64 a.z) := L15.A.cell 2
  have la15 := L15.A.lt
  have b015 : World.cell? w15 ⟨sb + 1, 0, none⟩ = some (.int .i64 b.x) := L15.B.cell 0
  have b115 : World.cell? w15 ⟨sb + 1, 1, none⟩ = some (.int .i64 b.y) := L15.B.cell 1
  have b215 : World.cell? w15 ⟨sb + 1, 2, none⟩ = some (.int .i64 b.z) := L15.B.cell 2
  have lb15 := L15.B.lt
  have x015 : World.cell? w15 ⟨sb + 1 + 1, 0, none⟩ = some (.int .i64 t) := L15.X.cell 0
  have x115 : World.cell? w15 ⟨sb + 1 + 1, 1, none⟩ = some (.int .i64 q) := L15.X.cell 1
  have lx15 := L15.X.lt
  have v0 := V15.cell 0
  have v1 := V15.cell 1
  have v2 := V15.cell 2
  have lv := V15.lt
  simp only [List.getElem?_toArray, List.getElem?_cons_zero, List.getElem?_cons_succ] at v0 v1 v2
  go_wp2_with fail
  go_ret
  exact ⟨rfl, N15⟩
set_option maxRecDepth 100000 in
set_option maxHeartbeats 8000000 in
theorem light_B3T2m (a b : Ve) (t q : Int) (w : World) (ha : vecE a = 0) (p : Int) (hb : vecE b = 0) (hw : inR t 0 4000000 = true) (hp : litS a b t = p) (u : Ve) (hu : sunS a (q % 4).toNat = u) (ht : inR q 0 1000000000000 = true) (u2 : Ve) (hu2 : sunS a ((q + 2) % 4).toNat = u2) (hl : q ≤ 999999999996) (h2 : vecE u2 = 0) (hz : a.z ≠ 0 ∧ b.z = 0) (p1 p2 : Int) (hlu : litE u b 0 = 0) (hp1 : litS u b 0 = p1) (hlu2 : litE u2 b 0 = 0) (hp2 : litS u2 b 0 = p2) (hp3 : 0 ≤ p1 ∧ p1 ≤ 2) (hp4 : 0 ≤ p2 ∧ p2 ≤ 2) (hsum : p1 + p2 = 2) :
    Calls Try.prog 5 #[.agg #[.int .i64 a.x, .int .i64 a.y, .int .i64 a.z], .agg #[.int .i64 b.x, .int .i64 b.y, .int .i64 b.z], .agg #[.int .i64 t, .int .i64 q]] w fun e w' => e = .returned (.bool true) ∧ New w w' := by
  have N0 := (((New.refl w).alloc (.cells #[.int .i64 a.x, .int .i64 a.y, .int .i64 a.z] 59)).alloc (.cells #[.int .i64 b.x, .int .i64 b.y, .int .i64 b.z] 59)).alloc (.cells #[.int .i64 t, .int .i64 q] 60)
  have L0 : LBox w.heap.size a b t q _ := ⟨((Bx.mk w 59 #[.int .i64 a.x, .int .i64 a.y, .int .i64 a.z]).alloc (.cells #[.int .i64 b.x, .int .i64 b.y, .int .i64 b.z] 59)).alloc (.cells #[.int .i64 t, .int .i64 q] 60),
    (Bx.mk_at _ 59 #[.int .i64 b.x, .int .i64 b.y, .int .i64 b.z] (w.heap.size + 1) (by simp)).alloc _, Bx.mk_at _ 60 #[.int .i64 t, .int .i64 q] (w.heap.size + 1 + 1) (by simp)⟩
  obtain ⟨W0, hW0⟩ : ∃ W, (((w.alloc (.cells #[.int .i64 a.x, .int .i64 a.y, .int .i64 a.z] 59)).alloc (.cells #[.int .i64 b.x, .int .i64 b.y, .int .i64 b.z] 59)).alloc (.cells #[.int .i64 t, .int .i64 q] 60)) = W := ⟨_, rfl⟩
  rw [hW0] at N0 L0
  have HA := Lib.hid ha
  have HU2 := Lib.hid hu2
  have HU4 := Lib.hid (show sunS a ((q + 4) % 4).toNat = u by rw [show (q + 4) % 4 = q % 4 by omega]; exact hu)
  have HS2 := Lib.hid (show sunE a (q + 2) = 0 by
    have h5 := inR_iff.1 ht
    have h6 : inR (q + 2) 0 1000000000000 = true := inR_iff.2 ⟨by omega, by omega⟩
    simp [sunE, firstE, ha, h6, errU])
  have HS4 := Lib.hid (show sunE a (q + 4) = 0 by
    have h5 := inR_iff.1 ht
    have h6 : inR (q + 4) 0 1000000000000 = true := inR_iff.2 ⟨by omega, by omega⟩
    simp [sunE, firstE, ha, h6, errU])
  have HV2 := Lib.hid h2
  clear h2
  have bz1 : (a.z != 0) = true := by simpa using hz.1
  have bz2 : (b.z != 0) = false := by simpa using hz.2
  clear hz
  have HLU := Lib.hid hlu
  have HP1 := Lib.hid hp1
  have HLU2 := Lib.hid hlu2
  have HP2 := Lib.hid hp2
  have bsum : (p1 + p2 == 2) = true := by simpa using hsum
  clear hlu hp1 hlu2 hp2 hsum
  have HLE := Lib.hid (show litE a b t = 0 by simp [litE, firstE, ha, hb, hw, errU])
  have HB := Lib.hid hb
  have HW := Lib.hid hw
  have HPV := Lib.hid hp
  have HAV3 := Lib.hid (show (-1000 ≤ a.x ∧ a.x ≤ 1000) ∧ (-1000 ≤ a.y ∧ a.y ≤ 1000) ∧ (-1000 ≤ a.z ∧ a.z ≤ 1000) from ⟨(vecE_zero ha).1, (vecE_zero ha).2.1, (vecE_zero ha).2.2.1⟩)
  have HBV3 := Lib.hid (show (-1000 ≤ b.x ∧ b.x ≤ 1000) ∧ (-1000 ≤ b.y ∧ b.y ≤ 1000) ∧ (-1000 ≤ b.z ∧ b.z ≤ 1000) from ⟨(vecE_zero hb).1, (vecE_zero hb).2.1, (vecE_zero hb).2.2.1⟩)
  have htt := inR_iff.1 hw
  have HTT := Lib.hid htt
  have huu : ∀ W, (binOp .neq 59 (.agg #[.int .i64 u.x, .int .i64 u.y, .int .i64 u.z]) (.agg #[.int .i64 u.x, .int .i64 u.y, .int .i64 u.z])).run Try.prog W = .ok (.bool false) W := fun W => by rw [neq_vecG]; simp
  have HSE := Lib.hid (show sunE a q = 0 by simp [sunE, firstE, ha, ht, errU])
  have HT := Lib.hid (show tick q = true from ht)
  have HAV3 := Lib.hid (show (-1000 ≤ a.x ∧ a.x ≤ 1000) ∧ (-1000 ≤ a.y ∧ a.y ≤ 1000) ∧ (-1000 ≤ a.z ∧ a.z ≤ 1000) from ⟨(vecE_zero ha).1, (vecE_zero ha).2.1, (vecE_zero ha).2.2.1⟩)
  have hq := inR_iff.1 ht
  have HQ := Lib.hid hq
  have HU := Lib.hid hu
  clear ha hb hw ht
  go_enter Try.func5, Try.ntmps5
  go_wp2_with fail
  try rw [hW0]
  clear hW0
  refine (awake6_any _).mono ?_
  rintro e w1 ⟨rfl, n1⟩
  have N1 := N0.trans n1
  have L1 := L0.keep n1
  clear n1 N0 L0
  obtain ⟨sb, hsb⟩ : ∃ s, w.heap.size = s := ⟨_, rfl⟩
  rw [hsb] at L1
  try rw [hsb]
  have a01 : World.cell? w1 ⟨sb, 0, none⟩ = some (.int .i64 a.x) := L1.A.cell 0
  have a11 : World.cell? w1 ⟨sb, 1, none⟩ = some (.int .i64 a.y) := L1.A.cell 1
  have a21 : World.cell? w1 ⟨sb, 2, none⟩ = some (.int .i64 a.z) := L1.A.cell 2
  have la1 := L1.A.lt
  have b01 : World.cell? w1 ⟨sb + 1, 0, none⟩ = some (.int .i64 b.x) := L1.B.cell 0
  have b11 : World.cell? w1 ⟨sb + 1, 1, none⟩ = some (.int .i64 b.y) := L1.B.cell 1
  have b21 : World.cell? w1 ⟨sb + 1, 2, none⟩ = some (.int .i64 b.z) := L1.B.cell 2
  have lb1 := L1.B.lt
  have x01 : World.cell? w1 ⟨sb + 1 + 1, 0, none⟩ = some (.int .i64 t) := L1.X.cell 0
  have x11 : World.cell? w1 ⟨sb + 1 + 1, 1, none⟩ = some (.int .i64 q) := L1.X.cell 1
  have lx1 := L1.X.lt
  go_wp2_with fail
  refine (cLitAt_ok HLE.out hp _).mono ?_
  rintro e w2 ⟨rfl, n2⟩
  have N2 := N1.trans n2
  have L2 := L1.keep n2
  clear n2 N1 L1 a01 a11 a21 b01 b11 b21 x01 x11 la1 lb1 lx1
  have a02 : World.cell? w2 ⟨sb, 0, none⟩ = some (.int .i64 a.x) := L2.A.cell 0
  have a12 : World.cell? w2 ⟨sb, 1, none⟩ = some (.int .i64 a.y) := L2.A.cell 1
  have a22 : World.cell? w2 ⟨sb, 2, none⟩ = some (.int .i64 a.z) := L2.A.cell 2
  have la2 := L2.A.lt
  have b02 : World.cell? w2 ⟨sb + 1, 0, none⟩ = some (.int .i64 b.x) := L2.B.cell 0
  have b12 : World.cell? w2 ⟨sb + 1, 1, none⟩ = some (.int .i64 b.y) := L2.B.cell 1
  have b22 : World.cell? w2 ⟨sb + 1, 2, none⟩ = some (.int .i64 b.z) := L2.B.cell 2
  have lb2 := L2.B.lt
  have x02 : World.cell? w2 ⟨sb + 1 + 1, 0, none⟩ = some (.int .i64 t) := L2.X.cell 0
  have x12 : World.cell? w2 ⟨sb + 1 + 1, 1, none⟩ = some (.int .i64 q) := L2.X.cell 1
  have lx2 := L2.X.lt
  go_wp2_with fail
  refine (cSunAt_ok HSE.out hu _).mono ?_
  rintro e w3 ⟨rfl, n3⟩
  have N3 := N2.trans n3
  have L3 := L2.keep n3
  clear n3 N2 L2 a02 a12 a22 b02 b12 b22 x02 x12 la2 lb2 lx2
  have a03 : World.cell? w3 ⟨sb, 0, none⟩ = some (.int .i64 a.x) := L3.A.cell 0
  have a13 : World.cell? w3 ⟨sb, 1, none⟩ = some (.int .i64 a.y) := L3.A.cell 1
  have a23 : World.cell? w3 ⟨sb, 2, none⟩ = some (.int .i64 a.z) := L3.A.cell 2
  have la3 := L3.A.lt
  have b03 : World.cell? w3 ⟨sb + 1, 0, none⟩ = some (.int .i64 b.x) := L3.B.cell 0
  have b13 : World.cell? w3 ⟨sb + 1, 1, none⟩ = some (.int .i64 b.y) := L3.B.cell 1
  have b23 : World.cell? w3 ⟨sb + 1, 2, none⟩ = some (.int .i64 b.z) := L3.B.cell 2
  have lb3 := L3.B.lt
  have x03 : World.cell? w3 ⟨sb + 1 + 1, 0, none⟩ = some (.int .i64 t) := L3.X.cell 0
  have x13 : World.cell? w3 ⟨sb + 1 + 1, 1, none⟩ = some (.int .i64 q) := L3.X.cell 1
  have lx3 := L3.X.lt
  go_wp2_with fail
  have V4 := Bx.mk w3 59 #[.int .i64 u.x, .int .i64 u.y, .int .i64 u.z]
  have n4 := (New.refl w3).alloc (.cells #[.int .i64 u.x, .int .i64 u.y, .int .i64 u.z] 59)
  have N4 := N3.trans n4
  have L4 := L3.keep n4
  obtain ⟨W4, hW4⟩ : ∃ W, w3.alloc (.cells #[.int .i64 u.x, .int .i64 u.y, .int .i64 u.z] 59) = W := ⟨_, rfl⟩
  obtain ⟨vb, hvb⟩ : ∃ s, w3.heap.size = s := ⟨_, rfl⟩
  rw [hW4] at V4 N4 L4
  rw [hvb] at V4
  try rw [hW4]
  try rw [hvb]
  clear n4 N3 L3 hW4 hvb a03 a13 a23 b03 b13 b23 x03 x13 la3 lb3 lx3
  refine (refVec_is HA.out _).mono ?_
  rintro e w5 ⟨rfl, n5⟩
  have N5 := N4.trans n5
  have L5 := L4.keep n5
  have V5 := V4.keep n5
  clear n5 N4 L4 V4
  have a05 : World.cell? w5 ⟨sb, 0, none⟩ = some (.int .i64 a.x) := L5.A.cell 0
  have a15 : World.cell? w5 ⟨sb, 1, none⟩ = some (.int .i64 a.y) := L5.A.cell 1
  have a25 : World.cell? w5 ⟨sb, 2, none⟩ = some (.int .i64 a.z) := L5.A.cell 2
  have la5 := L5.A.lt
  have b05 : World.cell? w5 ⟨sb + 1, 0, none⟩ = some (.int .i64 b.x) := L5.B.cell 0
  have b15 : World.cell? w5 ⟨sb + 1, 1, none⟩ = some (.int .i64 b.y) := L5.B.cell 1
  have b25 : World.cell? w5 ⟨sb + 1, 2, none⟩ = some (.int .i64 b.z) := L5.B.cell 2
  have lb5 := L5.B.lt
  have x05 : World.cell? w5 ⟨sb + 1 + 1, 0, none⟩ = some (.int .i64 t) := L5.X.cell 0
  have x15 : World.cell? w5 ⟨sb + 1 + 1, 1, none⟩ = some (.int .i64 q) := L5.X.cell 1
  have lx5 := L5.X.lt
  have v0 := V5.cell 0
  have v1 := V5.cell 1
  have v2 := V5.cell 2
  have lv := V5.lt
  simp only [List.getElem?_toArray, List.getElem?_cons_zero, List.getElem?_cons_succ] at v0 v1 v2
  go_wp2_with fail
  refine (refVec_is HB.out _).mono ?_
  rintro e w6 ⟨rfl, n6⟩
  have N6 := N5.trans n6
  have L6 := L5.keep n6
  have V6 := V5.keep n6
  clear n6 N5 L5 V5 v0 v1 v2 lv a05 a15 a25 b05 b15 b25 x05 x15 la5 lb5 lx5
  have a06 : World.cell? w6 ⟨sb, 0, none⟩ = some (.int .i64 a.x) := L6.A.cell 0
  have a16 : World.cell? w6 ⟨sb, 1, none⟩ = some (.int .i64 a.y) := L6.A.cell 1
  have a26 : World.cell? w6 ⟨sb, 2, none⟩ = some (.int .i64 a.z) := L6.A.cell 2
  have la6 := L6.A.lt
  have b06 : World.cell? w6 ⟨sb + 1, 0, none⟩ = some (.int .i64 b.x) := L6.B.cell 0
  have b16 : World.cell? w6 ⟨sb + 1, 1, none⟩ = some (.int .i64 b.y) := L6.B.cell 1
  have b26 : World.cell? w6 ⟨sb + 1, 2, none⟩ = some (.int .i64 b.z) := L6.B.cell 2
  have lb6 := L6.B.lt
  have x06 : World.cell? w6 ⟨sb + 1 + 1, 0, none⟩ = some (.int .i64 t) := L6.X.cell 0
  have x16 : World.cell? w6 ⟨sb + 1 + 1, 1, none⟩ = some (.int .i64 q) := L6.X.cell 1
  have lx6 := L6.X.lt
  have v0 := V6.cell 0
  have v1 := V6.cell 1
  have v2 := V6.cell 2
  have lv := V6.lt
  simp only [List.getElem?_toArray, List.getElem?_cons_zero, List.getElem?_cons_succ] at v0 v1 v2
  go_wp2_with (first | (go_at_call 19; refine (bWithin_any _ _ _ _).mono ?_; rintro e w' ⟨rfl, rfl⟩; rw [HW.out]) | (go_at_call 36; refine (bIsTick_any _ _).mono ?_; rintro e w' ⟨rfl, rfl⟩; rw [HT.out]))
  refine (refLit_is HPV.out _ HAV3.out HBV3.out HTT.out).mono ?_
  rintro e w7 ⟨rfl, n7⟩
  have N7 := N6.trans n7
  have L7 := L6.keep n7
  have V7 := V6.keep n7
  clear n7 N6 L6 V6 v0 v1 v2 lv a06 a16 a26 b06 b16 b26 x06 x16 la6 lb6 lx6
  have a07 : World.cell? w7 ⟨sb, 0, none⟩ = some (.int .i64 a.x) := L7.A.cell 0
  have a17 : World.cell? w7 ⟨sb, 1, none⟩ = some (.int .i64 a.y) := L7.A.cell 1
  have a27 : World.cell? w7 ⟨sb, 2, none⟩ = some (.int .i64 a.z) := L7.A.cell 2
  have la7 := L7.A.lt
  have b07 : World.cell? w7 ⟨sb + 1, 0, none⟩ = some (.int .i64 b.x) := L7.B.cell 0
  have b17 : World.cell? w7 ⟨sb + 1, 1, none⟩ = some (.int .i64 b.y) := L7.B.cell 1
  have b27 : World.cell? w7 ⟨sb + 1, 2, none⟩ = some (.int .i64 b.z) := L7.B.cell 2
  have lb7 := L7.B.lt
  have x07 : World.cell? w7 ⟨sb + 1 + 1, 0, none⟩ = some (.int .i64 t) := L7.X.cell 0
  have x17 : World.cell? w7 ⟨sb + 1 + 1, 1, none⟩ = some (.int .i64 q) := L7.X.cell 1
  have lx7 := L7.X.lt
  have v0 := V7.cell 0
  have v1 := V7.cell 1
  have v2 := V7.cell 2
  have lv := V7.lt
  simp only [List.getElem?_toArray, List.getElem?_cons_zero, List.getElem?_cons_succ] at v0 v1 v2
  go_wp2_with (first | (go_at_call 19; refine (bWithin_any _ _ _ _).mono ?_; rintro e w' ⟨rfl, rfl⟩; rw [HW.out]) | (go_at_call 36; refine (bIsTick_any _ _).mono ?_; rintro e w' ⟨rfl, rfl⟩; rw [HT.out]))
  (refine wp_region_new (by kernel_rfl) (by kernel_rfl) ?_; (repeat (go_big_quiet_step ((first | (go_at_call 37; with_reducible exact quiet_new (refSun_is HU.out _ HAV3.out HQ.out)))))); refine wpQuiet_nil ?_)
  intro w8 n8
  have N8 := N7.trans n8
  have L8 := L7.keep n8
  have V8 := V7.keep n8
  clear n8 N7 L7 V7 v0 v1 v2 lv a07 a17 a27 b07 b17 b27 x07 x17 la7 lb7 lx7
  have a08 : World.cell? w8 ⟨sb, 0, none⟩ = some (.int .i64 a.x) := L8.A.cell 0
  have a18 : World.cell? w8 ⟨sb, 1, none⟩ = some (.int .i64 a.y) := L8.A.cell 1
  have a28 : World.cell? w8 ⟨sb, 2, none⟩ = some (.int .i64 a.z) := L8.A.cell 2
  have la8 := L8.A.lt
  have b08 : World.cell? w8 ⟨sb + 1, 0, none⟩ = some (.int .i64 b.x) := L8.B.cell 0
  have b18 : World.cell? w8 ⟨sb + 1, 1, none⟩ = some (.int .i64 b.y) := L8.B.cell 1
  have b28 : World.cell? w8 ⟨sb + 1, 2, none⟩ = some (.int .i64 b.z) := L8.B.cell 2
  have lb8 := L8.B.lt
  have x08 : World.cell? w8 ⟨sb + 1 + 1, 0, none⟩ = some (.int .i64 t) := L8.X.cell 0
  have x18 : World.cell? w8 ⟨sb + 1 + 1, 1, none⟩ = some (.int .i64 q) := L8.X.cell 1
  have lx8 := L8.X.lt
  have v0 := V8.cell 0
  have v1 := V8.cell 1
  have v2 := V8.cell 2
  have lv := V8.lt
  simp only [List.getElem?_toArray, List.getElem?_cons_zero, List.getElem?_cons_succ] at v0 v1 v2
  go_wp2_with fail
  refine (cSunAt_ok HS2.out HU2.out _).mono ?_
  rintro e w9 ⟨rfl, n9⟩
  have N9 := N8.trans n9
  have L9 := L8.keep n9
  have V9 := V8.keep n9
  clear n9 N8 L8 V8 v0 v1 v2 lv a08 a18 a28 b08 b18 b28 x08 x18 la8 lb8 lx8
  have a09 : World.cell? w9 ⟨sb, 0, none⟩ = some (.int .i64 a.x) := L9.A.cell 0
  have a19 : World.cell? w9 ⟨sb, 1, none⟩ = some (.int .i64 a.y) := L9.A.cell 1
  have a29 : World.cell? w9 ⟨sb, 2, none⟩ = some (.int .i64 a.z) := L9.A.cell 2
  have la9 := L9.A.lt
  have b09 : World.cell? w9 ⟨sb + 1, 0, none⟩ = some (.int .i64 b.x) := L9.B.cell 0
  have b19 : World.cell? w9 ⟨sb + 1, 1, none⟩ = some (.int .i64 b.y) := L9.B.cell 1
  have b29 : World.cell? w9 ⟨sb + 1, 2, none⟩ = some (.int .i64 b.z) := L9.B.cell 2
  have lb9 := L9.B.lt
  have x09 : World.cell? w9 ⟨sb + 1 + 1, 0, none⟩ = some (.int .i64 t) := L9.X.cell 0
  have x19 : World.cell? w9 ⟨sb + 1 + 1, 1, none⟩ = some (.int .i64 q) := L9.X.cell 1
  have lx9 := L9.X.lt
  have v0 := V9.cell 0
  have v1 := V9.cell 1
  have v2 := V9.cell 2
  have lv := V9.lt
  simp only [List.getElem?_toArray, List.getElem?_cons_zero, List.getElem?_cons_succ] at v0 v1 v2
  go_wp2_with fail
  have gB := Bx.mk w9 59 #[.int .i64 u2.x, .int .i64 u2.y, .int .i64 u2.z]
  have n10 := (New.refl w9).alloc (.cells #[.int .i64 u2.x, .int .i64 u2.y, .int .i64 u2.z] 59)
  obtain ⟨w10, hw10⟩ : ∃ W, w9.alloc (.cells #[.int .i64 u2.x, .int .i64 u2.y, .int .i64 u2.z] 59) = W := ⟨_, rfl⟩
  obtain ⟨gb, hgb⟩ : ∃ s, w9.heap.size = s := ⟨_, rfl⟩
  rw [hw10] at gB n10
  rw [hgb] at gB
  try rw [hw10]
  try rw [hgb]
  clear hw10 hgb
  have N10 := N9.trans n10
  have L10 := L9.keep n10
  have V10 := V9.keep n10
  clear n10 N9 L9 V9 v0 v1 v2 lv a09 a19 a29 b09 b19 b29 x09 x19 la9 lb9 lx9
  have a010 : World.cell? w10 ⟨sb, 0, none⟩ = some (.int .i64 a.x) := L10.A.cell 0
  have a110 : World.cell? w10 ⟨sb, 1, none⟩ = some (.int .i64 a.y) := L10.A.cell 1
  have a210 : World.cell? w10 ⟨sb, 2, none⟩ = some (.int .i64 a.z) := L10.A.cell 2
  have la10 := L10.A.lt
  have b010 : World.cell? w10 ⟨sb + 1, 0, none⟩ = some (.int .i64 b.x) := L10.B.cell 0
  have b110 : World.cell? w10 ⟨sb + 1, 1, none⟩ = some (.int .i64 b.y) := L10.B.cell 1
  have b210 : World.cell? w10 ⟨sb + 1, 2, none⟩ = some (.int .i64 b.z) := L10.B.cell 2
  have lb10 := L10.B.lt
  have x010 : World.cell? w10 ⟨sb + 1 + 1, 0, none⟩ = some (.int .i64 t) := L10.X.cell 0
  have x110 : World.cell? w10 ⟨sb + 1 + 1, 1, none⟩ = some (.int .i64 q) := L10.X.cell 1
  have lx10 := L10.X.lt
  have v0 := V10.cell 0
  have v1 := V10.cell 1
  have v2 := V10.cell 2
  have lv := V10.lt
  simp only [List.getElem?_toArray, List.getElem?_cons_zero, List.getElem?_cons_succ] at v0 v1 v2
  have g0 := gB.cell 0
  have g1 := gB.cell 1
  have g2 := gB.cell 2
  have lg := gB.lt
  simp only [List.getElem?_toArray, List.getElem?_cons_zero, List.getElem?_cons_succ] at g0 g1 g2
  refine (cSunAt_ok HS4.out HU4.out _).mono ?_
  rintro e w11 ⟨rfl, n11⟩
  have gC := gB.keep n11
  clear g0 g1 g2 lg gB
  have N11 := N10.trans n11
  have L11 := L10.keep n11
  have V11 := V10.keep n11
  clear n11 N10 L10 V10 v0 v1 v2 lv a010 a110 a210 b010 b110 b210 x010 x110 la10 lb10 lx10
  have a011 : World.cell? w11 ⟨sb, 0, none⟩ = some (.int .i64 a.x) := L11.A.cell 0
  have a111 : World.cell? w11 ⟨sb, 1, none⟩ = some (.int .i64 a.y) := L11.A.cell 1
  have a211 : World.cell? w11 ⟨sb, 2, none⟩ = some (.int .i64 a.z) := L11.A.cell 2
  have la11 := L11.A.lt
  have b011 : World.cell? w11 ⟨sb + 1, 0, none⟩ = some (.int .i64 b.x) := L11.B.cell 0
  have b111 : World.cell? w11 ⟨sb + 1, 1, none⟩ = some (.int .i64 b.y) := L11.B.cell 1
  have b211 : World.cell? w11 ⟨sb + 1, 2, none⟩ = some (.int .i64 b.z) := L11.B.cell 2
  have lb11 := L11.B.lt
  have x011 : World.cell? w11 ⟨sb + 1 + 1, 0, none⟩ = some (.int .i64 t) := L11.X.cell 0
  have x111 : World.cell? w11 ⟨sb + 1 + 1, 1, none⟩ = some (.int .i64 q) := L11.X.cell 1
  have lx11 := L11.X.lt
  have v0 := V11.cell 0
  have v1 := V11.cell 1
  have v2 := V11.cell 2
  have lv := V11.lt
  simp only [List.getElem?_toArray, List.getElem?_cons_zero, List.getElem?_cons_succ] at v0 v1 v2
  have g0 := gC.cell 0
  have g1 := gC.cell 1
  have g2 := gC.cell 2
  have lg := gC.lt
  simp only [List.getElem?_toArray, List.getElem?_cons_zero, List.getElem?_cons_succ] at g0 g1 g2
  go_wp2_with fail
  have hB := Bx.mk w11 59 #[.int .i64 u.x, .int .i64 u.y, .int .i64 u.z]
  have n12 := (New.refl w11).alloc (.cells #[.int .i64 u.x, .int .i64 u.y, .int .i64 u.z] 59)
  obtain ⟨w12, hw12⟩ : ∃ W, w11.alloc (.cells #[.int .i64 u.x, .int .i64 u.y, .int .i64 u.z] 59) = W := ⟨_, rfl⟩
  obtain ⟨hb, hhb⟩ : ∃ s, w11.heap.size = s := ⟨_, rfl⟩
  rw [hw12] at hB n12
  rw [hhb] at hB
  try rw [hw12]
  try rw [hhb]
  clear hw12 hhb
  have gD := gC.keep n12
  clear g0 g1 g2 lg gC
  have N12 := N11.trans n12
  have L12 := L11.keep n12
  have V12 := V11.keep n12
  clear n12 N11 L11 V11 v0 v1 v2 lv a011 a111 a211 b011 b111 b211 x011 x111 la11 lb11 lx11
  have a012 : World.cell? w12 ⟨sb, 0, none⟩ = some (.int .i64 a.x) := L12.A.cell 0
  have a112 : World.cell? w12 ⟨sb, 1, none⟩ = some (.int .i64 a.y) := L12.A.cell 1
  have a212 : World.cell? w12 ⟨sb, 2, none⟩ = some (.int .i64 a.z) := L12.A.cell 2
  have la12 := L12.A.lt
  have b012 : World.cell? w12 ⟨sb + 1, 0, none⟩ = some (.int .i64 b.x) := L12.B.cell 0
  have b112 : World.cell? w12 ⟨sb + 1, 1, none⟩ = some (.int .i64 b.y) := L12.B.cell 1
  have b212 : World.cell? w12 ⟨sb + 1, 2, none⟩ = some (.int .i64 b.z) := L12.B.cell 2
  have lb12 := L12.B.lt
  have x012 : World.cell? w12 ⟨sb + 1 + 1, 0, none⟩ = some (.int .i64 t) := L12.X.cell 0
  have x112 : World.cell? w12 ⟨sb + 1 + 1, 1, none⟩ = some (.int .i64 q) := L12.X.cell 1
  have lx12 := L12.X.lt
  have v0 := V12.cell 0
  have v1 := V12.cell 1
  have v2 := V12.cell 2
  have lv := V12.lt
  simp only [List.getElem?_toArray, List.getElem?_cons_zero, List.getElem?_cons_succ] at v0 v1 v2
  have g0 := gD.cell 0
  have g1 := gD.cell 1
  have g2 := gD.cell 2
  have lg := gD.lt
  simp only [List.getElem?_toArray, List.getElem?_cons_zero, List.getElem?_cons_succ] at g0 g1 g2
  have h0 := hB.cell 0
  have h1 := hB.cell 1
  have h2 := hB.cell 2
  have lh := hB.lt
  simp only [List.getElem?_toArray, List.getElem?_cons_zero, List.getElem?_cons_succ] at h0 h1 h2
  refine (refVec_is HV2.out _).mono ?_
  rintro e w13 ⟨rfl, n13⟩
  have gE := gD.keep n13
  have hE := hB.keep n13
  clear g0 g1 g2 lg gD h0 h1 h2 lh hB
  have N13 := N12.trans n13
  have L13 := L12.keep n13
  have V13 := V12.keep n13
  clear n13 N12 L12 V12 v0 v1 v2 lv a012 a112 a212 b012 b112 b212 x012 x112 la12 lb12 lx12
  have a013 : World.cell? w13 ⟨sb, 0, none⟩ = some (.int .i64 a.x) := L13.A.cell 0
  have a113 : World.cell? w13 ⟨sb, 1, none⟩ = some (.int .i64 a.y) := L13.A.cell 1
  have a213 : World.cell? w13 ⟨sb, 2, none⟩ = some (.int .i64 a.z) := L13.A.cell 2
  have la13 := L13.A.lt
  have b013 : World.cell? w13 ⟨sb + 1, 0, none⟩ = some (.int .i64 b.x) := L13.B.cell 0
  have b113 : World.cell? w13 ⟨sb + 1, 1, none⟩ = some (.int .i64 b.y) := L13.B.cell 1
  have b213 : World.cell? w13 ⟨sb + 1, 2, none⟩ = some (.int .i64 b.z) := L13.B.cell 2
  have lb13 := L13.B.lt
  have x013 : World.cell? w13 ⟨sb + 1 + 1, 0, none⟩ = some (.int .i64 t) := L13.X.cell 0
  have x113 : World.cell? w13 ⟨sb + 1 + 1, 1, none⟩ = some (.int .i64 q) := L13.X.cell 1
  have lx13 := L13.X.lt
  have v0 := V13.cell 0
  have v1 := V13.cell 1
  have v2 := V13.cell 2
  have lv := V13.lt
  simp only [List.getElem?_toArray, List.getElem?_cons_zero, List.getElem?_cons_succ] at v0 v1 v2
  have g0 := gE.cell 0
  have g1 := gE.cell 1
  have g2 := gE.cell 2
  have lg := gE.lt
  simp only [List.getElem?_toArray, List.getElem?_cons_zero, List.getElem?_cons_succ] at g0 g1 g2
  have h0 := hE.cell 0
  have h1 := hE.cell 1
  have h2 := hE.cell 2
  have lh := hE.lt
  simp only [List.getElem?_toArray, List.getElem?_cons_zero, List.getElem?_cons_succ] at h0 h1 h2
  go_wp2_with fail
  refine (cLitAt_ok HLU.out HP1.out _).mono ?_
  rintro e w14 ⟨rfl, n14⟩
  have gF := gE.keep n14
  clear g0 g1 g2 lg gE h0 h1 h2 lh hE
  have N14 := N13.trans n14
  have L14 := L13.keep n14
  have V14 := V13.keep n14
  clear n14 N13 L13 V13 v0 v1 v2 lv a013 a113 a213 b013 b113 b213 x013 x113 la13 lb13 lx13
  have a014 : World.cell? w14 ⟨sb, 0, none⟩ = some (.int .i64 a.x) := L14.A.cell 0
  have a114 : World.cell? w14 ⟨sb, 1, none⟩ = some (.int .i64 a.y) := L14.A.cell 1
  have a214 : World.cell? w14 ⟨sb, 2, none⟩ = some (.int .i64 a.z) := L14.A.cell 2
  have la14 := L14.A.lt
  have b014 : World.cell? w14 ⟨sb + 1, 0, none⟩ = some (.int .i64 b.x) := L14.B.cell 0
  have b114 : World.cell? w14 ⟨sb + 1, 1, none⟩ = some (.int .i64 b.y) := L14.B.cell 1
  have b214 : World.cell? w14 ⟨sb + 1, 2, none⟩ = some (.int .i64 b.z) := L14.B.cell 2
  have lb14 := L14.B.lt
  have x014 : World.cell? w14 ⟨sb + 1 + 1, 0, none⟩ = some (.int .i64 t) := L14.X.cell 0
  have x114 : World.cell? w14 ⟨sb + 1 + 1, 1, none⟩ = some (.int .i64 q) := L14.X.cell 1
  have lx14 := L14.X.lt
  have v0 := V14.cell 0
  have v1 := V14.cell 1
  have v2 := V14.cell 2
  have lv := V14.lt
  simp only [List.getElem?_toArray, List.getElem?_cons_zero, List.getElem?_cons_succ] at v0 v1 v2
  have g0 := gF.cell 0
  have g1 := gF.cell 1
  have g2 := gF.cell 2
  have lg := gF.lt
  simp only [List.getElem?_toArray, List.getElem?_cons_zero, List.getElem?_cons_succ] at g0 g1 g2
  go_wp2_with fail
  refine (cLitAt_ok HLU2.out HP2.out _).mono ?_
  rintro e w15 ⟨rfl, n15⟩
  clear g0 g1 g2 lg gF
  have N15 := N14.trans n15
  have L15 := L14.keep n15
  have V15 := V14.keep n15
  clear n15 N14 L14 V14 v0 v1 v2 lv a014 a114 a214 b014 b114 b214 x014 x114 la14 lb14 lx14
  have a015 : World.cell? w15 ⟨sb, 0, none⟩ = some (.int .i64 a.x) := L15.A.cell 0
  have a115 : World.cell? w15 ⟨sb, 1, none⟩ = some (.int .i64 a.y) := L15.A.cell 1
  have a215 : World.cell? w15 ⟨sb, 2, none⟩ = some (.int .i64 a.z) := L15.A.cell 2
  have la15 := L15.A.lt
  have b015 : World.cell? w15 ⟨sb + 1, 0, none⟩ = some (.int .i64 b.x) := L15.B.cell 0
  have b115 : World.cell? w15 ⟨sb + 1, 1, none⟩ = some (.int .i64 b.y) := L15.B.cell 1
  have b215 : World.cell? w15 ⟨sb + 1, 2, none⟩ = some (.int .i64 b.z) := L15.B.cell 2
  have lb15 := L15.B.lt
  have x015 : World.cell? w15 ⟨sb + 1 + 1, 0, none⟩ = some (.int .i64 t) := L15.X.cell 0
  have x115 : World.cell? w15 ⟨sb + 1 + 1, 1, none⟩ = some (.int .i64 q) := L15.X.cell 1
  have lx15 := L15.X.lt
  have v0 := V15.cell 0
  have v1 := V15.cell 1
  have v2 := V15.cell 2
  have lv := V15.lt
  simp only [List.getElem?_toArray, List.getElem?_cons_zero, List.getElem?_cons_succ] at v0 v1 v2
  go_wp2_with fail
  go_ret
  exact ⟨rfl, N15⟩
end Go.Proofs.Ytaogolnoiffgiaa
