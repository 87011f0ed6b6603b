/- Contracts: the document's stations and grid, copies of polygons.
   Contracts: chapter 6 is awake. -/
import Derived.BigQuiet
import Derived.BigRegion
import Derived.Deep.AppendLies
import Derived.Deep.Draws
import Derived.Deep.Quiet
import Derived.Deep.QuietTactic
import Derived.DeepKeys4
import Derived.Laws.BitsAllLaws
import Derived.Laws.Rows
import Derived.Lib.Hide
import Derived.Lib.SliceRun
import Derived.LoopIn
import Derived.LoopNIn
import Derived.MapKept
import Derived.Maps.Keyed
import Derived.Maps.OwnIn
import Derived.Maps.OwnSet
import Derived.OrdersIn
import Derived.OwnWalkIn
import Derived.RangeFuncBound
import Derived.RangeFuncCalls
import Derived.RangeFuncLeaves
import Derived.RangeFuncNested
import Derived.Shelf.Abstract
import Derived.Shelf.GgSortFunc.InsertionK
import Derived.Shelf.RegionOpen
import Derived.Shelf.SlSortCmp.NoneTotal
import Derived.Shelf.SlSortCmp.QuietGrown
import Derived.Shelf.SlSortCmp.WholeK
import Derived.StillTail
import Derived.TacticsIn
import Derived.TacticsInMore
import Derived.Test.YtaogolnoiffgiaaProg
import Derived.WalkArith
import Derived.WalkKit
import Derived.WalkLawsBesides
import Derived.WalkSpells
import Derived.Test.YtaogolnoiffgiaaC18L
import Derived.Test.YtaogolnoiffgiaaC18U
import Derived.Test.YtaogolnoiffgiaaC18Z
import Derived.Test.YtaogolnoiffgiaaC18ZA

namespace Go.Proofs.Ytaogolnoiffgiaa
open Go.RowKit Go.Sky Go.Sky.Ch

def stA : Sta := ⟨⟨#[97]⟩, 0, 0, 10, 10, 0⟩
def stB : Sta := ⟨⟨#[98]⟩, 3, 0, 40, 43, 5⟩
theorem cStations_any (w : World) : Calls Try.prog 77 #[] w fun e w' => New w w' ∧ ∃ b, e = .returned (.slice (some ⟨b, 0, none⟩) 2 2) ∧ Rd w' 6 encSt (some ⟨b, 0, none⟩) 2 [stA, stB] := by
  go_enter Try.func77, Try.ntmps77
  go_wp2
  go_ret
  exact ⟨(New.refl w).alloc _, _, rfl, rd_bx (Bx.mk _ _ _) encSt_len _ rfl 2 rfl⟩
theorem cGrid_any (w : World) : Calls Try.prog 79 #[] w fun e w' => New w w' ∧ ∃ A, e = .returned (.slice A 3 3) ∧ RowsL w' 1 encI A 3 gridD := by
  go_enter Try.func79, Try.ntmps79
  go_wp2
  go_ret
  refine ⟨(((((New.refl w).alloc _).alloc _).alloc _).alloc _), _, rfl, [⟨some ⟨w.heap.size, 0, none⟩, 3, 3⟩, ⟨some ⟨w.heap.size + 1, 0, none⟩, 3, 3⟩, ⟨some ⟨w.heap.size + 1 + 1, 0, none⟩, 3, 3⟩], ?_, ?_⟩
  · exact rd_bx (Bx.mk_at _ _ _ (w.heap.size + 1 + 1 + 1) (by simp)) encSl_len _ rfl 3 rfl
  · refine ⟨rfl, fun i r xs hr hx => ?_⟩
    rcases (show i = 0 ∨ i = 1 ∨ i = 2 ∨ 3 ≤ i by omega) with rfl | rfl | rfl | h
    · injection hr with hr
      injection hx with hx
      subst hr hx
      exact ⟨Nat.le_refl _, rd_bx ((((Bx.mk w _ _).alloc _).alloc _).alloc _) encI_len _ rfl 3 rfl⟩
    · injection hr with hr
      injection hx with hx
      subst hr hx
      exact ⟨Nat.le_refl _, rd_bx (((Bx.mk_at _ _ _ (w.heap.size + 1) (by simp)).alloc _).alloc _) encI_len _ rfl 3 rfl⟩
    · injection hr with hr
      injection hx with hx
      subst hr hx
      exact ⟨Nat.le_refl _, rd_bx ((Bx.mk_at _ _ _ (w.heap.size + 1 + 1) (by simp)).alloc _) encI_len _ rfl 3 rfl⟩
    · rw [List.getElem?_eq_none (by simpa using h)] at hr
      cases hr
set_option maxHeartbeats 2000000 in
theorem cCopyContour_any (A : Option Addr) (n cap : Nat) (c : List Pl) (w : World) (hn : n ≤ 1000000) (hr : Rd w 2 encPl A n c) :
    Calls Try.prog 47 #[.slice A n cap] w fun e w' => New w w' ∧ ∃ B k, e = .returned (.slice B n k) ∧ n ≤ k ∧ Rd w' 2 encPl B n c := by
  obtain ⟨i0, hi, hz0, hz1, hz2⟩ := info_parts infoPl
  have HR := Lib.hid (hr.keep ((New.refl w).alloc (.cells #[] 73)))
  have HO := Lib.hid (Sky.Own.empty w w.heap.size 73 2 encPl_len w.heap.size rfl (Nat.le_refl _))
  have N1 := (New.refl w).alloc (.cells #[] 73)
  clear hr
  go_enter Try.func47, Try.ntmps47
  go_wp2_with (at_builtin; refine wpList_pour _ rfl _ _ 82 rfl 73 i0 _ 2 16 Try.underlying82 hi hz0 hz1 hz2 rfl (by omega) w.heap.size encPl _ 0 0 [] rfl HO.out A n cap c rfl HR.out encPl_one (by simp only [maxLen]; omega) (by omega) N1.size ?_; intro A7 cap7 w7 hown7 hgr7 hN7)
  go_ret
  rw [Nat.zero_add, List.nil_append] at hown7
  exact ⟨hN7 w N1 (Nat.le_refl _), A7, cap7, rfl, hown7.le.1, hown7.rd⟩
end Go.Proofs.Ytaogolnoiffgiaa

namespace Go.Proofs.Ytaogolnoiffgiaa
open Go.RowKit Go.Sky Go.Sky.Ch

theorem awake_val : valueS [stA, stB] 1 0 = ⟨(40, 3), (41, 3), 0⟩ := by
  have h : (valueS [stA, stB] 1 0).a = (40, 3) ∧ (valueS [stA, stB] 1 0).b = (41, 3) ∧ (valueS [stA, stB] 1 0).e = 0 := by decide
  rcases hv : valueS [stA, stB] 1 0 with ⟨a, b, e⟩
  rw [hv] at h
  obtain ⟨rfl, rfl, rfl⟩ := h
  rfl
theorem awake_worst : worstS [stA, stB] = (⟨#[97]⟩, 0) := by decide
theorem cValueAt_is {l : List Sta} {x y : Int} {v : SpanV} (h : valueS l x y = v) (A : Option Addr) (n cap : Nat) (w : World) (hn : n ≤ 1000000) (hr : Rd w 6 encSt A n l) (hs : ∀ s ∈ l, s.n.size ≤ 1000) :
    Calls Try.prog 76 #[.slice A n cap, .agg #[.int .i64 x, .int .i64 y]] w fun e w' => e = .returned (.tuple #[.agg #[.int .i64 v.a.1, .int .i64 v.a.2, .int .i64 v.b.1, .int .i64 v.b.2], .int .i64 v.e]) ∧ New w w' := h ▸ cValueAt_any A n cap l x y w hn hr hs
theorem cWorstOf_is {l : List Sta} {v : ByteArray × Int} (h : worstS l = v) (A : Option Addr) (n cap : Nat) (w : World) (hn : n ≤ 1000000) (hcap : n ≤ cap) (hr : Rd w 6 encSt A n l) (hs : ∀ s ∈ l, s.n.size ≤ 1000) :
    Calls Try.prog 78 #[.slice A n cap] w fun e w' => e = .returned (.tuple #[.string v.1, .int .i64 v.2]) ∧ New w w' := h ▸ cWorstOf_any A n cap l w hn hcap hr hs
theorem stSizes : ∀ s ∈ [stA, stB], s.n.size ≤ 1000 := by decide
/-- The contours of the document's grid. -/
theorem cContoursD (A : Option Addr) (cap : Nat) (w : World) (hr : RowsL w 1 encI A 3 gridD) :
    Calls Try.prog 25 #[.slice A 3 cap, .int .i64 3] w fun e w' => New w w' ∧ ∃ C c, e = .returned (.tuple #[.slice C 2 c, .int .i64 0]) ∧ 2 ≤ c ∧ RowsL w' 2 encPl C 2 [contD0, contD1] := by
  refine (cContoursOf_any A 3 cap gridD 3 w (by omega) (by decide) hr).mono ?_
  rintro e w' ⟨hn, h⟩
  refine ⟨hn, ?_⟩
  rcases h with ⟨v, hv, hv0, _⟩ | ⟨_, ys, C, m, c, ⟨hs1, hs2⟩, he, hmc, hrr⟩
  · rw [gridD_open] at hv
    exact absurd hv.symm hv0
  · obtain rfl := sidesD_is hs1 hs2
    rw [contD] at hrr
    have := hrr.len
    obtain rfl : 2 = m := this
    exact ⟨C, c, he, hmc, hrr⟩
theorem cLitD (w : World) : Calls Try.prog 32 #[.agg #[.int .i64 100, .int .i64 0, .int .i64 10], .agg #[.int .i64 50, .int .i64 80, .int .i64 0], .int .i64 1000] w fun e w' => e = .returned (.tuple #[.int .i64 2, .int .i64 0]) ∧ New w w' := by
  refine (cLitAt_any ⟨100, 0, 10⟩ ⟨50, 80, 0⟩ 1000 w).mono ?_
  rintro e w' ⟨hn, h⟩
  rcases h with ⟨v, hv, hv0, _⟩ | ⟨_, he⟩
  · rw [awake_lit.1] at hv
    exact absurd hv.symm hv0
  · rw [awake_lit.2] at he
    exact ⟨he, hn⟩
theorem cAreaD (A : Option Addr) (cap : Nat) (w : World) (hr : Rd w 2 encPl A 4 contD1) : Calls Try.prog 48 #[.slice A 4 cap] w fun e w' => e = .returned (.tuple #[.int .i64 (-1), .int .i64 0]) ∧ New w w' := by
  refine (cAreaOf_any A 4 cap contD1 w (by omega) hr).mono ?_
  rintro e w' ⟨hn, h⟩
  rcases h with ⟨v, hv, hv0, _⟩ | ⟨_, he⟩
  · rw [contD1_ok] at hv
    exact absurd hv.symm hv0
  · rw [contD1_area] at he
    exact ⟨he, hn⟩

set_option maxRecDepth 100000 in
set_option maxHeartbeats 8000000 in
theorem awake6_any (w : World) : Calls Try.prog 20 #[] w fun e w' => e = .returned (.bool true) ∧ New w w' := by
  go_enter Try.func20, Try.ntmps20
  go_wp2_with fail
  refine (cStations_any _).mono ?_
  rintro e w1 ⟨n1, b1, rfl, r1⟩
  go_wp2_with fail
  refine (cValueAt_is awake_val _ 2 2 _ (by omega) r1 stSizes).mono ?_
  rintro e w2 ⟨rfl, n2⟩
  have b2 := Bx.mk w2 137 #[.int .i64 40, .int .i64 3, .int .i64 41, .int .i64 3]
  have N2 := (n1.trans n2).alloc (.cells #[.int .i64 40, .int .i64 3, .int .i64 41, .int .i64 3] 137)
  obtain ⟨W2, hW2⟩ : ∃ W2, w2.alloc (.cells #[.int .i64 40, .int .i64 3, .int .i64 41, .int .i64 3] 137) = W2 := ⟨_, rfl⟩
  rw [hW2] at b2 N2
  obtain ⟨sb, hsb⟩ : ∃ b, w2.heap.size = b := ⟨_, rfl⟩
  rw [hsb] at b2
  clear r1 n1 n2
  go_wp2_with fail
  try rw [hW2]
  try rw [hsb]
  clear hW2 hsb
  refine (cStations_any _).mono ?_
  rintro e w3 ⟨n3, b3, rfl, r3⟩
  go_wp2_with fail
  refine (cWorstOf_is awake_worst _ 2 2 _ (by omega) (by omega) r3 stSizes).mono ?_
  rintro e w4 ⟨rfl, n4⟩
  have N4 := N2.trans (n3.trans n4)
  have B4 := b2.keep (n3.trans n4)
  clear r3 n3 n4 b2 N2
  go_wp2_with fail
  refine (cGrid_any _).mono ?_
  rintro e w5 ⟨n5, GA, rfl, g5⟩
  go_wp2_with fail
  refine (cContoursD GA 3 _ g5).mono ?_
  rintro e w6 ⟨n6, C, c, rfl, hc, r6⟩
  have N6 := N4.trans (n5.trans n6)
  have B6 := B4.keep (n5.trans n6)
  clear g5 n5 n6 B4 N4
  go_wp2_with fail
  refine (cLitD _).mono ?_
  rintro e w7 ⟨rfl, n7⟩
  have N7 := N6.trans n7
  have B7 := B6.keep n7
  have r7 := r6.keep n7
  clear n7 B6 N6 r6
  obtain ⟨b, o, r, xs, rfl, hb, hx, hcl, hrow⟩ := r7.at_ (show 1 < 2 by omega)
  injection hx with hx
  subst hx
  obtain ⟨RA, rn, rc⟩ := r
  have hrl : 4 = rn := hrow.len
  subst hrl
  have hrd := hrow.2
  dsimp only at hcl hrd
  clear hrow
  go_wp2_with fail
  refine (cCopyContour_any RA 4 rc contD1 _ (by omega) hrd).mono ?_
  rintro e w8 ⟨n8, D, k, rfl, hk, hd⟩
  go_wp2_with fail
  refine (cAreaD D k _ hd).mono ?_
  rintro e w9 ⟨rfl, n9⟩
  have N9 := N7.trans (n8.trans n9)
  have B9 := B7.keep (n8.trans n9)
  obtain ⟨b', o', r0, xs0, hA, hb0, hx0, hcl0, hrow0⟩ := (r7.keep (n8.trans n9)).at_ (show 0 < 2 by omega)
  injection hA with hA
  injection hA with ea eb
  subst ea eb
  injection hx0 with hx0
  subst hx0
  obtain ⟨R0, m0, c0⟩ := r0
  have hrl0 : 12 = m0 := hrow0.len
  subst hrl0
  dsimp only at hcl0
  simp only [Nat.add_zero] at hcl0
  clear hrow0 n8 n9 B7 N7
  have k0 := B9.cell 0
  have k1 := B9.cell 1
  have k2 := B9.cell 2
  have k3 := B9.cell 3
  have lb := B9.lt
  simp only [List.getElem?_toArray, List.getElem?_cons_zero, List.getElem?_cons_succ] at k0 k1 k2 k3
  go_wp2_with fail
  go_ret
  exact ⟨rfl, N9⟩
end Go.Proofs.Ytaogolnoiffgiaa
