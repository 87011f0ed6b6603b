/- Contracts: the document's stations and grid, copies of polygons.
   Contracts: chapter 6 is awake.
   The walk of ChartPolygons.
   Contracts: polygons that fill a grid (program, reference).
   Contracts: polygons that fill a grid in the program. -/
import Derived.BigQuiet
import Derived.BigRegion
import Derived.Deep.AppendLies
import Derived.Deep.Draws
import Derived.Deep.Quiet
import Derived.Deep.QuietTactic
import Derived.DeepKeys4
import Derived.Laws.BitsAllLaws
import Derived.Laws.Rows
import Derived.Lib.Hide
import Derived.Lib.SliceRun
import Derived.LoopIn
import Derived.LoopNIn
import Derived.MapKept
import Derived.Maps.Keyed
import Derived.Maps.OwnIn
import Derived.Maps.OwnSet
import Derived.OrdersIn
import Derived.OwnWalkIn
import Derived.RangeFuncBound
import Derived.RangeFuncCalls
import Derived.RangeFuncLeaves
import Derived.RangeFuncNested
import Derived.Shelf.Abstract
import Derived.Shelf.GgSortFunc.InsertionK
import Derived.Shelf.RegionOpen
import Derived.Shelf.SlSortCmp.NoneTotal
import Derived.Shelf.SlSortCmp.QuietGrown
import Derived.Shelf.SlSortCmp.WholeK
import Derived.StillTail
import Derived.TacticsIn
import Derived.TacticsInMore
import Derived.Test.YtaogolnoiffgiaaProg
import Derived.WalkArith
import Derived.WalkKit
import Derived.WalkLawsBesides
import Derived.WalkSpells
import Derived.Test.YtaogolnoiffgiaaC22L
import Derived.Test.YtaogolnoiffgiaaC22U
import Derived.Test.YtaogolnoiffgiaaC22W
import Derived.Test.YtaogolnoiffgiaaC22ZB
import Derived.Test.YtaogolnoiffgiaaC22ZC
import Derived.Test.YtaogolnoiffgiaaC22ZD

namespace Go.Proofs.Ytaogolnoiffgiaa
open Go.RowKit Go.Sky Go.Sky.Ch

def stA : Sta := ⟨⟨#[97]⟩, 0, 0, 10, 10, 0⟩
def stB : Sta := ⟨⟨#[98]⟩, 3, 0, 40, 43, 5⟩
theorem cStations_any (w : World) : Calls Try.prog 77 #[] w fun e w' => New w w' ∧ ∃ b, e = .returned (.slice (some ⟨b, 0, none⟩) 2 2) ∧ Rd w' 6 encSt (some ⟨b, 0, none⟩) 2 [stA, stB] := by
  go_enter Try.func77, Try.ntmps77
  go_wp2
  go_ret
  exact ⟨(New.refl w).alloc _, _, rfl, rd_bx (Bx.mk _ _ _) encSt_len _ rfl 2 rfl⟩
theorem cGrid_any (w : World) : Calls Try.prog 79 #[] w fun e w' => New w w' ∧ ∃ A, e = .returned (.slice A 3 3) ∧ RowsL w' 1 encI A 3 gridD := by
  go_enter Try.func79, Try.ntmps79
  go_wp2
  go_ret
  refine ⟨(((((New.refl w).alloc _).alloc _).alloc _).alloc _), _, rfl, [⟨some ⟨w.heap.size, 0, none⟩, 3, 3⟩, ⟨some ⟨w.heap.size + 1, 0, none⟩, 3, 3⟩, ⟨some ⟨w.heap.size + 1 + 1, 0, none⟩, 3, 3⟩], ?_, ?_⟩
  · exact rd_bx (Bx.mk_at _ _ _ (w.heap.size + 1 + 1 + 1) (by simp)) encSl_len _ rfl 3 rfl
  · refine ⟨rfl, fun i r xs hr hx => ?_⟩
    rcases (show i = 0 ∨ i = 1 ∨ i = 2 ∨ 3 ≤ i by omega) with rfl | rfl | rfl | h
    · injection hr with hr
      injection hx with hx
      subst hr hx
      exact ⟨Nat.le_refl _, rd_bx ((((Bx.mk w _ _).alloc _).alloc _).alloc _) encI_len _ rfl 3 rfl⟩
    · injection hr with hr
      injection hx with hx
      subst hr hx
      exact ⟨Nat.le_refl _, rd_bx (((Bx.mk_at _ _ _ (w.heap.size + 1) (by simp)).alloc _).alloc _) encI_len _ rfl 3 rfl⟩
    · injection hr with hr
      injection hx with hx
      subst hr hx
      exact ⟨Nat.le_refl _, rd_bx ((Bx.mk_at _ _ _ (w.heap.size + 1 + 1) (by simp)).alloc _) encI_len _ rfl 3 rfl⟩
    · rw [List.getElem?_eq_none (by simpa using h)] at hr
      cases hr
set_option maxHeartbeats 2000000 in
theorem cCopyContour_any (A : Option Addr) (n cap : Nat) (c : List Pl) (w : World) (hn : n ≤ 1000000) (hr : Rd w 2 encPl A n c) :
    Calls Try.prog 47 #[.slice A n cap] w fun e w' => New w w' ∧ ∃ B k, e = .returned (.slice B n k) ∧ n ≤ k ∧ Rd w' 2 encPl B n c := by
  obtain ⟨i0, hi, hz0, hz1, hz2⟩ := info_parts infoPl
  have HR := Lib.hid (hr.keep ((New.refl w).alloc (.cells #[] 73)))
  have HO := Lib.hid (Sky.Own.empty w w.heap.size 73 2 encPl_len w.heap.size rfl (Nat.le_refl _))
  have N1 := (New.refl w).alloc (.cells #[] 73)
  clear hr
  go_enter Try.func47, Try.ntmps47
  go_wp2_with (at_builtin; refine wpList_pour _ rfl _ _ 82 rfl 73 i0 _ 2 16 Try.underlying82 hi hz0 hz1 hz2 rfl (by omega) w.heap.size encPl _ 0 0 [] rfl HO.out A n cap c rfl HR.out encPl_one (by simp only [maxLen]; omega) (by omega) N1.size ?_; intro A7 cap7 w7 hown7 hgr7 hN7)
  go_ret
  rw [Nat.zero_add, List.nil_append] at hown7
  exact ⟨hN7 w N1 (Nat.le_refl _), A7, cap7, rfl, hown7.le.1, hown7.rd⟩
end Go.Proofs.Ytaogolnoiffgiaa

namespace Go.Proofs.Ytaogolnoiffgiaa
open Go.RowKit Go.Sky Go.Sky.Ch

theorem awake_val : valueS [stA, stB] 1 0 = ⟨(40, 3), (41, 3), 0⟩ := by
  have h : (valueS [stA, stB] 1 0).a = (40, 3) ∧ (valueS [stA, stB] 1 0).b = (41, 3) ∧ (valueS [stA, stB] 1 0).e = 0 := by decide
  rcases hv : valueS [stA, stB] 1 0 with ⟨a, b, e⟩
  rw [hv] at h
  obtain ⟨rfl, rfl, rfl⟩ := h
  rfl
theorem awake_worst : worstS [stA, stB] = (⟨#[97]⟩, 0) := by decide
theorem cValueAt_is {l : List Sta} {x y : Int} {v : SpanV} (h : valueS l x y = v) (A : Option Addr) (n cap : Nat) (w : World) (hn : n ≤ 1000000) (hr : Rd w 6 encSt A n l) (hs : ∀ s ∈ l, s.n.size ≤ 1000) :
    Calls Try.prog 76 #[.slice A n cap, .agg #[.int .i64 x, .int .i64 y]] w fun e w' => e = .returned (.tuple #[.agg #[.int .i64 v.a.1, .int .i64 v.a.2, .int .i64 v.b.1, .int .i64 v.b.2], .int .i64 v.e]) ∧ New w w' := h ▸ cValueAt_any A n cap l x y w hn hr hs
theorem cWorstOf_is {l : List Sta} {v : ByteArray × Int} (h : worstS l = v) (A : Option Addr) (n cap : Nat) (w : World) (hn : n ≤ 1000000) (hcap : n ≤ cap) (hr : Rd w 6 encSt A n l) (hs : ∀ s ∈ l, s.n.size ≤ 1000) :
    Calls Try.prog 78 #[.slice A n cap] w fun e w' => e = .returned (.tuple #[.string v.1, .int .i64 v.2]) ∧ New w w' := h ▸ cWorstOf_any A n cap l w hn hcap hr hs
theorem stSizes : ∀ s ∈ [stA, stB], s.n.size ≤ 1000 := by decide
/-- The contours of the document's grid. -/
theorem cContoursD (A : Option Addr) (cap : Nat) (w : World) (hr : RowsL w 1 encI A 3 gridD) :
    Calls Try.prog 25 #[.slice A 3 cap, .int .i64 3] w fun e w' => New w w' ∧ ∃ C c, e = .returned (.tuple #[.slice C 2 c, .int .i64 0]) ∧ 2 ≤ c ∧ RowsL w' 2 encPl C 2 [contD0, contD1] := by
  refine (cContoursOf_any A 3 cap gridD 3 w (by omega) (by decide) hr).mono ?_
  rintro e w' ⟨hn, h⟩
  refine ⟨hn, ?_⟩
  rcases h with ⟨v, hv, hv0, _⟩ | ⟨_, ys, C, m, c, ⟨hs1, hs2⟩, he, hmc, hrr⟩
  · rw [gridD_open] at hv
    exact absurd hv.symm hv0
  · obtain rfl := sidesD_is hs1 hs2
    rw [contD] at hrr
    have := hrr.len
    obtain rfl : 2 = m := this
    exact ⟨C, c, he, hmc, hrr⟩
theorem cLitD (w : World) : Calls Try.prog 32 #[.agg #[.int .i64 100, .int .i64 0, .int .i64 10], .agg #[.int .i64 50, .int .i64 80, .int .i64 0], .int .i64 1000] w fun e w' => e = .returned (.tuple #[.int .i64 2, .int .i64 0]) ∧ New w w' := by
  refine (cLitAt_any ⟨100, 0, 10⟩ ⟨50, 80, 0⟩ 1000 w).mono ?_
  rintro e w' ⟨hn, h⟩
  rcases h with ⟨v, hv, hv0, _⟩ | ⟨_, he⟩
  · rw [awake_lit.1] at hv
    exact absurd hv.symm hv0
  · rw [awake_lit.2] at he
    exact ⟨he, hn⟩
theorem cAreaD (A : Option Addr) (cap : Nat) (w : World) (hr : Rd w 2 encPl A 4 contD1) : Calls Try.prog 48 #[.slice A 4 cap] w fun e w' => e = .returned (.tuple #[.int .i64 (-1), .int .i64 0]) ∧ New w w' := by
  refine (cAreaOf_any A 4 cap contD1 w (by omega) hr).mono ?_
  rintro e w' ⟨hn, h⟩
  rcases h with ⟨v, hv, hv0, _⟩ | ⟨_, he⟩
  · rw [contD1_ok] at hv
    exact absurd hv.symm hv0
  · rw [contD1_area] at he
    exact ⟨he, hn⟩

set_option maxRecDepth 100000 in
set_option maxHeartbeats 8000000 in
theorem awake6_any (w : World) : Calls Try.prog 20 #[] w fun e w' => e = .returned (.bool true) ∧ New w w' := by
  go_enter Try.func20, Try.ntmps20
  go_wp2_with fail
  refine (cStations_any _).mono ?_
  rintro e w1 ⟨n1, b1, rfl, r1⟩
  go_wp2_with fail
  refine (cValueAt_is awake_val _ 2 2 _ (by omega) r1 stSizes).mono ?_
  rintro e w2 ⟨rfl, n2⟩
  have b2 := Bx.mk w2 137 #[.int .i64 40, .int .i64 3, .int .i64 41, .int .i64 3]
  have N2 := (n1.trans n2).alloc (.cells #[.int .i64 40, .int .i64 3, .int .i64 41, .int .i64 3] 137)
  obtain ⟨W2, hW2⟩ : ∃ W2, w2.alloc (.cells #[.int .i64 40, .int .i64 3, .int .i64 41, .int .i64 3] 137) = W2 := ⟨_, rfl⟩
  rw [hW2] at b2 N2
  obtain ⟨sb, hsb⟩ : ∃ b, w2.heap.size = b := ⟨_, rfl⟩
  rw [hsb] at b2
  clear r1 n1 n2
  go_wp2_with fail
  try rw [hW2]
  try rw [hsb]
  clear hW2 hsb
  refine (cStations_any _).mono ?_
  rintro e w3 ⟨n3, b3, rfl, r3⟩
  go_wp2_with fail
  refine (cWorstOf_is awake_worst _ 2 2 _ (by omega) (by omega) r3 stSizes).mono ?_
  rintro e w4 ⟨rfl, n4⟩
  have N4 := N2.trans (n3.trans n4)
  have B4 := b2.keep (n3.trans n4)
  clear r3 n3 n4 b2 N2
  go_wp2_with fail
  refine (cGrid_any _).mono ?_
  rintro e w5 ⟨n5, GA, rfl, g5⟩
  go_wp2_with fail
  refine (cContoursD GA 3 _ g5).mono ?_
  rintro e w6 ⟨n6, C, c, rfl, hc, r6⟩
  have N6 := N4.trans (n5.trans n6)
  have B6 := B4.keep (n5.trans n6)
  clear g5 n5 n6 B4 N4
  go_wp2_with fail
  refine (cLitD _).mono ?_
  rintro e w7 ⟨rfl, n7⟩
  have N7 := N6.trans n7
  have B7 := B6.keep n7
  have r7 := r6.keep n7
  clear n7 B6 N6 r6
  obtain ⟨b, o, r, xs, rfl, hb, hx, hcl, hrow⟩ := r7.at_ (show 1 < 2 by omega)
  injection hx with hx
  subst hx
  obtain ⟨RA, rn, rc⟩ := r
  have hrl : 4 = rn := hrow.len
  subst hrl
  have hrd := hrow.2
  dsimp only at hcl hrd
  clear hrow
  go_wp2_with fail
  refine (cCopyContour_any RA 4 rc contD1 _ (by omega) hrd).mono ?_
  rintro e w8 ⟨n8, D, k, rfl, hk, hd⟩
  go_wp2_with fail
  refine (cAreaD D k _ hd).mono ?_
  rintro e w9 ⟨rfl, n9⟩
  have N9 := N7.trans (n8.trans n9)
  have B9 := B7.keep (n8.trans n9)
  obtain ⟨b', o', r0, xs0, hA, hb0, hx0, hcl0, hrow0⟩ := (r7.keep (n8.trans n9)).at_ (show 0 < 2 by omega)
  injection hA with hA
  injection hA with ea eb
  subst ea eb
  injection hx0 with hx0
  subst hx0
  obtain ⟨R0, m0, c0⟩ := r0
  have hrl0 : 12 = m0 := hrow0.len
  subst hrl0
  dsimp only at hcl0
  simp only [Nat.add_zero] at hcl0
  clear hrow0 n8 n9 B7 N7
  have k0 := B9.cell 0
  have k1 := B9.cell 1
  have k2 := B9.cell 2
  have k3 := B9.cell 3
  have lb := B9.lt
  simp only [List.getElem?_toArray, List.getElem?_cons_zero, List.getElem?_cons_succ] at k0 k1 k2 k3
  go_wp2_with fail
  go_ret
  exact ⟨rfl, N9⟩
end Go.Proofs.Ytaogolnoiffgiaa

namespace Go.Proofs.Ytaogolnoiffgiaa
open Go.RowKit Go.Sky Go.Sky.Ch

def arV (c : List Pl) : Int := if (conS c).2 = 0 then areaS c else 0
theorem cAreaOf_is {c : List Pl} {v E : Int} (h1 : arV c = v) (h2 : (conS c).2 = E) (A : Option Addr) (m cap : Nat) (w : World) (hm : m ≤ 1000000) (hr : Rd w 2 encPl A m c) :
    Calls Try.prog 48 #[.slice A m cap] w fun e w' => e = .returned (.tuple #[.int .i64 v, .int .i64 E]) ∧ New w w' := by
  refine (cAreaOf_any A m cap c w hm hr).mono ?_
  rintro e w' ⟨hn, ⟨r, h3, h4, he⟩ | ⟨h3, he⟩⟩
  · rw [h2] at h3
    subst h3
    unfold arV at h1
    rw [if_neg (by rw [h2]; exact h4)] at h1
    rw [← h1]
    exact ⟨he, hn⟩
  · unfold arV at h1
    rw [if_pos h3] at h1
    rw [h2] at h3
    rw [← h1, h3]
    exact ⟨he, hn⟩
theorem cCheckContour_is {c : List Pl} {u v : Int} (h1 : (conS c).1 = u) (h2 : (conS c).2 = v) (A : Option Addr) (n cap : Nat) (w : World) (hn : n ≤ 1000000) (hr : Rd w 2 encPl A n c) :
    Calls Try.prog 46 #[.slice A n cap] w fun e w' => e = .returned (.tuple #[.int .i64 u, .int .i64 v]) ∧ New w w' := h1 ▸ h2 ▸ cCheckContour_any A n cap c w hn hr
theorem poly_cases (c : List Pl) (x y : Int) : ∃ E P K a v t : Int, (conS c).2 = E ∧ placeE x y = P ∧ tuE c x y = K ∧ arV c = a ∧ tuV c x y = v ∧ turnsS c x y = t ∧
    ((E ≠ 0 ∧ (E != 0) = true ∧ K = E ∧ a = 0 ∧ v = 0) ∨ (E = 0 ∧ (P != 0) = true ∧ K = P ∧ v = 0 ∧ a = areaS c) ∨ (E = 0 ∧ P = 0 ∧ K = 0 ∧ a = areaS c ∧ v = t)) := by
  refine ⟨_, _, _, _, _, _, rfl, rfl, rfl, rfl, rfl, rfl, ?_⟩
  by_cases h1 : (conS c).2 = 0
  · by_cases h2 : placeE x y = 0
    · have hk : tuE c x y = 0 := by unfold tuE; rw [h1, h2]; rfl
      exact .inr (.inr ⟨h1, h2, hk, by unfold arV; rw [if_pos h1], by unfold tuV; rw [if_pos hk]⟩)
    · have hk : tuE c x y = placeE x y := by unfold tuE; rw [h1]; exact firstE_ne (l := []) h2
      exact .inr (.inl ⟨h1, by simpa using h2, hk, by unfold tuV; rw [if_neg (by rw [hk]; exact h2)], by unfold arV; rw [if_pos h1]⟩)
  · have hk : tuE c x y = (conS c).2 := firstE_ne h1
    exact .inl ⟨h1, by simpa using h1, hk, by unfold arV; rw [if_neg h1], by unfold tuV; rw [if_neg (by rw [hk]; exact h1)]⟩

set_option maxRecDepth 100000 in
set_option maxHeartbeats 8000000 in
theorem polygons_any (A : Option Addr) (n cap : Nat) (c : List Pl) (x y : Int) (w : World) (hr : Rd w 2 encPl A n c) :
    Calls Try.prog 7 #[.slice A n cap, .agg #[.int .i64 x, .int .i64 y]] w fun e w' => e = .returned (.bool true) ∧ New w w' := by
  have HL := Lib.hid hr.len
  have HR := Lib.hid hr
  clear hr
  have N0 := (New.refl w).alloc (.cells #[.int .i64 x, .int .i64 y] 73)
  have b0 := Bx.mk w 73 #[.int .i64 x, .int .i64 y]
  obtain ⟨W0, hW0⟩ : ∃ W, w.alloc (.cells #[.int .i64 x, .int .i64 y] 73) = W := ⟨_, rfl⟩
  obtain ⟨sb, hsb⟩ : ∃ s, w.heap.size = s := ⟨_, rfl⟩
  rw [hW0] at N0 b0
  rw [hsb] at b0
  by_cases h202 : 202 < n
  · go_enter Try.func7, Try.ntmps7
    go_wp2_with fail
    try rw [hW0]
    try rw [hsb]
    clear hW0 hsb
    refine (awake6_any _).mono ?_
    rintro e w1 ⟨rfl, n1⟩
    go_wp2_with fail
    go_ret
    exact ⟨rfl, N0.trans n1⟩
  by_cases h60 : 60 < n ∧ n ≤ 200
  · obtain ⟨h60, h200⟩ := h60
    go_enter Try.func7, Try.ntmps7
    go_wp2_with fail
    try rw [hW0]
    try rw [hsb]
    clear hW0 hsb
    refine (awake6_any _).mono ?_
    rintro e w1 ⟨rfl, n1⟩
    go_wp2_with fail
    go_ret
    exact ⟨rfl, N0.trans n1⟩
  have hgo : (¬ 60 < n) ∨ (60 < n ∧ ¬ n ≤ 200) := by omega
  clear h60
  obtain ⟨I, hI⟩ : ∃ i, (conS c).1 = i := ⟨_, rfl⟩
  have HI := Lib.hid hI
  obtain ⟨E, P, K, a, v, t, hE, hP, hK, hA, hV, hT, hcase⟩ := poly_cases c x y
  have HE := Lib.hid hE
  have HP := Lib.hid hP
  have HK := Lib.hid hK
  have HA := Lib.hid hA
  have HV := Lib.hid hV
  have HT := Lib.hid hT
  have HOK := Lib.hid (show E = 0 → (1 ≤ n ∧ n ≤ 200) ∧ StepsOf c ∧ ∀ p ∈ c, PlB p from fun h => by
    have h0 : (conS c).2 = 0 := by rw [hE]; exact h
    obtain ⟨h4, h5, h6⟩ := conS_ok h0
    rw [HL.out] at h4 h5
    exact ⟨⟨by omega, h5⟩, steps_ok h0, h6⟩)
  have HPO := Lib.hid (show P = 0 → PlOk x y from fun h => placeE_ok (by rw [hP]; exact h))
  have eII : (I != I) = false := by simp
  clear hI hE hP hK hA hV hT
  rcases hgo with h60 | ⟨h60, h200⟩
  all_goals
    go_enter Try.func7, Try.ntmps7
    go_wp2_with fail
    try rw [hW0]
    try rw [hsb]
    clear hW0 hsb
    refine (awake6_any _).mono ?_
    rintro e w1 ⟨rfl, n1⟩
    have N1 := N0.trans n1
    have b1 := b0.keep n1
    clear N0 b0 n1
    go_wp2_with fail
    refine (cCopyContour_any A n cap c _ (by omega) (HR.out.keep N1)).mono ?_
    rintro e w2 ⟨n2, A2, c2, rfl, hc2, r2⟩
    have N2 := N1.trans n2
    have b2 := b1.keep n2
    have HR2 := Lib.hid r2
    clear N1 b1 n2 r2 hc2
    go_wp2_with fail
    refine (cCheckContour_is HI.out HE.out A2 n c2 _ (by omega) HR2.out).mono ?_
    rintro e w3 ⟨rfl, n3⟩
    have N3 := N2.trans n3
    have b3 := b2.keep n3
    clear N2 b2 n3 HR2
    go_wp2_with fail
    refine (cCopyContour_any A n cap c _ (by omega) (HR.out.keep N3)).mono ?_
    rintro e w4 ⟨n4, A4, c4, rfl, hc4, r4⟩
    have N4 := N3.trans n4
    have b4 := b3.keep n4
    have HR4 := Lib.hid r4
    clear N3 b3 n4 r4 hc4
    go_wp2_with fail
    refine (cAreaOf_is HA.out HE.out A4 n c4 _ (by omega) HR4.out).mono ?_
    rintro e w5 ⟨rfl, n5⟩
    have N5 := N4.trans n5
    have b5 := b4.keep n5
    clear N4 b4 n5 HR4
    have c0 : w5.cell? ⟨sb, 0, none⟩ = some (.int .i64 x) := b5.cell 0
    have c1 : w5.cell? ⟨sb, 1, none⟩ = some (.int .i64 y) := b5.cell 1
    have l5 := b5.lt
    go_wp2
    refine wp_region_takes0 w5 (New.refl _) 1 8 #[true, false, false, false, false, false, false, false, false] (by kernel_rfl) (by kernel_rfl) (by kernel_rfl) (by kernel_rfl) (by kernel_rfl) (by kernel_rfl) ?_
    simp only [List.take_succ_cons, List.take_zero]
    (repeat (go_big_quiet_step ((fail))))
    refine wpQuiet_nil ?_
    intro W6 n6
    refine take_next 2 1 #[true, false, true, false, false, false, false, false, false] rfl (by kernel_rfl) (by kernel_rfl) (by kernel_rfl) (by kernel_rfl) (by decide) ?_
    simp only [List.take_succ_cons, List.take_zero, List.drop_succ_cons, List.drop_zero]
    (repeat (go_big_quiet_step ((fail))))
    refine wpQuiet_nil ?_
    refine one_next 1 (by kernel_rfl) (new_plus n6) (wpOpIn_list rfl ?_)
    gi_wp2_with fail
    refine ⟨trivial, callsIn_wide.2 ((cCopyContour_any A n cap c _ (by omega) (HR.out.keep (N5.trans n6))).mono ?_)⟩
    rintro e w7 ⟨n7, A7, c7, rfl, hc7, r7⟩
    have nn7 := n6.trans n7
    have HR7 := Lib.hid r7
    clear n6 n7 r7 hc7
    gi_wp2
    refine one_next 3 (by kernel_rfl) (new_plus nn7) (wpOpIn_list rfl ?_)
    gi_wp2_with fail
    refine ⟨trivial, callsIn_wide.2 ((cTurnsAround_is HV.out HK.out A7 n c7 _ (by omega) HR7.out).mono ?_)⟩
    rintro e w8 ⟨rfl, n8⟩
    have nn8 := nn7.trans n8
    clear n8 nn7 HR7
    gi_wp2
    refine take_next 4 5 #[true, true, true, true, true, true, true, true, true] rfl (by kernel_rfl) (by kernel_rfl) (by kernel_rfl) (by kernel_rfl) (by decide) ?_
    simp only [List.take_succ_cons, List.take_zero, List.drop_succ_cons, List.drop_zero]
    (repeat (go_big_quiet_step ((fail))))
    refine wpQuiet_nil ?_
    refine end_any (new_plus nn8) (by kernel_rfl) ?_
    have N8 := N5.trans nn8
    have b8 := b5.keep nn8
    clear N5 b5 c0 c1 l5 nn8
    go_wp2_with fail
    refine (refCon_is HI.out HE.out A n cap _ (by omega) (HR.out.keep N8)).mono ?_
    rintro e w9 ⟨rfl, n9⟩
    have N9 := N8.trans n9
    have b9 := b8.keep n9
    clear N8 b8 n9
    have c0 : w9.cell? ⟨sb, 0, none⟩ = some (.int .i64 x) := b9.cell 0
    have c1 : w9.cell? ⟨sb, 1, none⟩ = some (.int .i64 y) := b9.cell 1
    have l9 := b9.lt
    have eEE : (E != E) = false := by simp
    rcases hcase with ⟨h0, h1, rfl, rfl, rfl⟩ | ⟨rfl, h1, rfl, rfl, h2⟩ | ⟨rfl, rfl, rfl, h2, rfl⟩
    · have eKK : (K == K) = true := by simp
      clear h0
      go_wp2_with fail
      go_ret
      exact ⟨rfl, N9⟩
    · have eKK : (K == K) = true := by simp
      have eaa : (a != a) = false := by simp
      obtain ⟨hn2, _, hpl⟩ := HOK.out rfl
      have HPL := Lib.hid hpl
      have HA2 := Lib.hid h2.symm
      clear h2 hpl
      go_wp2_with fail
      refine (refArea_is HA2.out A n cap _ hn2 (HR.out.keep N9) HPL.out).mono ?_
      rintro e w10 ⟨rfl, n10⟩
      have N10 := N9.trans n10
      have b10 := b9.keep n10
      clear N9 b9 n10 c0 c1 l9
      have c0 : w10.cell? ⟨sb, 0, none⟩ = some (.int .i64 x) := b10.cell 0
      have c1 : w10.cell? ⟨sb, 1, none⟩ = some (.int .i64 y) := b10.cell 1
      have l10 := b10.lt
      go_wp2_with fail
      refine (refPlace_is HP.out _).mono ?_
      rintro e w11 ⟨rfl, n11⟩
      go_wp2_with fail
      go_ret
      exact ⟨rfl, N10.trans n11⟩
    · have eaa : (a != a) = false := by simp
      have evv : (v == v) = true := by simp
      obtain ⟨hn2, hst, hpl⟩ := HOK.out rfl
      have HPL := Lib.hid hpl
      have HST := Lib.hid hst
      have HPK := Lib.hid (HPO.out rfl)
      have HA2 := Lib.hid h2.symm
      clear h2 hpl hst
      go_wp2_with fail
      refine (refArea_is HA2.out A n cap _ hn2 (HR.out.keep N9) HPL.out).mono ?_
      rintro e w10 ⟨rfl, n10⟩
      have N10 := N9.trans n10
      have b10 := b9.keep n10
      clear N9 b9 n10 c0 c1 l9
      have c0 : w10.cell? ⟨sb, 0, none⟩ = some (.int .i64 x) := b10.cell 0
      have c1 : w10.cell? ⟨sb, 1, none⟩ = some (.int .i64 y) := b10.cell 1
      have l10 := b10.lt
      go_wp2_with fail
      refine (refPlace_is HP.out _).mono ?_
      rintro e w11 ⟨rfl, n11⟩
      have N11 := N10.trans n11
      have b11 := b10.keep n11
      clear N10 b10 n11 c0 c1 l10
      have c0 : w11.cell? ⟨sb, 0, none⟩ = some (.int .i64 x) := b11.cell 0
      have c1 : w11.cell? ⟨sb, 1, none⟩ = some (.int .i64 y) := b11.cell 1
      have l11 := b11.lt
      go_wp2_with fail
      refine (refTurns_is HT.out A n cap _ hn2 (HR.out.keep N11) HST.out HPL.out HPK.out).mono ?_
      rintro e w12 ⟨rfl, n12⟩
      go_wp2_with fail
      go_ret
      exact ⟨rfl, N11.trans n12⟩
end Go.Proofs.Ytaogolnoiffgiaa

namespace Go.Proofs.Ytaogolnoiffgiaa
open Go.RowKit Go.Sky Go.Sky.Ch

theorem cIsCount_is {n : Int} {v : Bool} (h : inR n 1 8 = v) (w : World) : Calls Try.prog 112 #[.int .i64 n] w fun e w' => e = .returned (.bool v) ∧ w = w' := by
  have H := Lib.hid h
  go_enter Try.func112, Try.ntmps112
  go_wp2_with fail
  refine (cWithin_is H.out _).mono ?_
  rintro e w' ⟨rfl, rfl⟩
  go_wp2_with fail
  go_ret
  exact ⟨rfl, rfl⟩
theorem refContourErr_is {c : List Pl} {v : Int} (h : (conS c).2 = v) (A : Option Addr) (n cap : Nat) (w : World) (hn : n ≤ 1000000) (hr : Rd w 2 encPl A n c) :
    Calls Try.prog 62 #[.slice A n cap] w fun e w' => e = .returned (.int .i64 v) ∧ New w w' := by
  have HR := Lib.hid hr
  have HV := Lib.hid h
  clear hr h
  go_enter Try.func62, Try.ntmps62
  go_wp2_with fail
  refine (refCon_is rfl HV.out A n cap _ hn HR.out).mono ?_
  rintro e w1 ⟨rfl, n1⟩
  go_wp2_with fail
  go_ret
  exact ⟨rfl, n1⟩

set_option maxHeartbeats 2000000 in
theorem refCopyC_own (A : Option Addr) (n cap : Nat) (c : List Pl) (w : World) (hn : n ≤ 1000000) (hr : Rd w 2 encPl A n c) :
    Calls Try.prog 47 #[.slice A n cap] w fun e w' => New w w' ∧ ∃ B k, e = .returned (.slice B n k) ∧ Sky.Own w' w.heap.size 73 2 encPl B n k c := by
  obtain ⟨i0, hi, hz0, hz1, hz2⟩ := info_parts infoPl
  have HR := Lib.hid (hr.keep ((New.refl w).alloc (.cells #[] 73)))
  have HO := Lib.hid (Sky.Own.empty w w.heap.size 73 2 encPl_len w.heap.size rfl (Nat.le_refl _))
  have N1 := (New.refl w).alloc (.cells #[] 73)
  clear hr
  go_enter Try.func47, Try.ntmps47
  go_wp2_with (at_builtin; refine wpList_pour _ rfl _ _ 82 rfl 73 i0 _ 2 16 Try.underlying82 hi hz0 hz1 hz2 rfl (by omega) w.heap.size encPl _ 0 0 [] rfl HO.out A n cap c rfl HR.out encPl_one (by simp only [maxLen]; omega) (by omega) N1.size ?_; intro A7 cap7 w7 hown7 hgr7 hN7)
  go_ret
  rw [Nat.zero_add, List.nil_append] at hown7
  exact ⟨hN7 w N1 (Nat.le_refl _), A7, cap7, rfl, hown7⟩

set_option maxRecDepth 100000 in
set_option maxHeartbeats 4000000 in
theorem refCopyCs_any (A : Option Addr) (n cap : Nat) (l : List (List Pl)) (w : World) (hn : n ≤ 100000) (hrl : ∀ c ∈ l, c.length ≤ 1000000) (hr : RowsL w 2 encPl A n l) :
    Calls Try.prog 58 #[.slice A n cap] w fun e w' => New w w' ∧ ∃ C c, e = .returned (.slice C n c) ∧ n ≤ c ∧ RowsL w' 2 encPl C n l := by
  obtain ⟨i1, hi1, hy0, hy1, hy2⟩ := info_parts infoRowPl
  have HL := Lib.hid hr.len
  have HR := Lib.hid hr
  have HRL := Lib.hid hrl
  clear hr hrl
  go_enter Try.func58, Try.ntmps58
  go_wp2_with fail
  go_loopw [3, 4] (fun out i wr => ∃ (k c : Nat) (C : Option Addr) (rv : List SlV), k ≤ n ∧ i = .int .i64 (k : Int) ∧ out = .slice C k c ∧ Hid (OwnRows wr w.heap.size 73 82 2 encPl C k c rv (l.take k)) ∧ New w wr) (fun _ i _ => n - (intOf i).toNat)
  case atStart => exact ⟨0, 0, none, [], by omega, rfl, rfl, OwnRows.nil, New.refl _⟩
  case round =>
    obtain ⟨k, c, C, rv, hk, rfl, rfl, HO, hN⟩ := hrel
    by_cases hlt : k < n
    · obtain ⟨b, o, r, xs, rfl, hb, hx, hc, hrow⟩ := (HR.out.keep hN).at_ hlt
      have HST := Lib.hid (show l.take (k + 1) = l.take k ++ [xs] from take_snoc l k xs hx)
      obtain ⟨RA, rn, rc⟩ := r
      have hxl : xs.length = rn := hrow.len
      have hrn : rn ≤ 1000000 := by rw [← hxl]; exact HRL.out xs (List.mem_of_getElem? hx)
      have HRW := Lib.hid hrow.2
      dsimp only at hc HRW
      have i0' : (0 : Int) ≤ (k : Int) := by omega
      have i1' : (k : Int) < (n : Int) := by omega
      clear hx hrow hxl
      go_wp2_with fail
      refine (refCopyC_own RA rn rc xs _ hrn HRW.out).mono ?_
      rintro e w2 ⟨n2, D, c2, rfl, ho2⟩
      have HDR := Lib.hid (ho2.base_le hN.size)
      have HOK := Lib.hid (HO.out.keep n2)
      have N2 := hN.trans n2
      have hkc : k ≤ 100000 := by omega
      have hne : (73 : Nat) ≠ 82 := by decide
      clear ho2 n2
      go_wp2_with ((at_builtin; refine wpList_pour _ rfl _ _ 47 rfl 82 i1 _ 1 24 Try.underlying47 hi1 hy0 hy1 hy2 rfl (by omega) w.heap.size encSl _ _ _ _ rfl (HOK.out.own.alloc _) _ 1 1 [(⟨D, rn, c2⟩ : SlV)] rfl (by exact rd_bx (Bx.mk _ _ _) encSl_len _ rfl 1 rfl) encSl_one (by simp [maxLen]; omega) (by omega) (N2.alloc _).size ?_; intro A3 cap3 w3 hown3 hgr3 hN3))
      have n3 := hN3 w (N2.alloc _) (Nat.le_refl _)
      have HO3 := Lib.hid ((HOK.out.keep ((New.refl w2).alloc (.cells #[.slice D rn c2] 82))).snoc (HDR.out.alloc (.cells #[.slice D rn c2] 82)) hne hown3 hgr3)
      clear hown3 hgr3 hN3
      go_wp2_with fail
      go_roundw
      case rel => exact ⟨k + 1, cap3, A3, _, by omega, by go_num, rfl, by unfold Hid; rw [HST.out]; exact HO3.out, n3⟩
      case measure => simp [intOf]; omega
    · obtain rfl : k = n := by omega
      have HFO := Lib.hid HO.out
      go_wp2_with fail
      go_ret
      refine ⟨hN, C, c, rfl, HFO.out.own.le.1, ?_⟩
      have h := HFO.out.reads
      rw [List.take_of_length_le (by rw [HL.out]; exact Nat.le_refl _)] at h
      exact h

set_option maxRecDepth 100000 in
set_option maxHeartbeats 4000000 in
theorem refFillErr_any (W H : Int) (A : Option Addr) (n cap : Nat) (l : List (List Pl)) (w : World) (hn : n ≤ 100000) (hrl : ∀ c ∈ l, c.length ≤ 1000000) (hr : RowsL w 2 encPl A n l) :
    Calls Try.prog 59 #[.agg #[.int .i64 W, .int .i64 H], .slice A n cap] w fun e w' => e = .returned (.int .i64 (fillE W H l)) ∧ New w w' := by
  have HL := Lib.hid hr.len
  have HR := Lib.hid hr
  have HRL := Lib.hid hrl
  clear hr hrl
  have HV := Lib.hid (show fillE W H l = if (inR W 1 8 && inR H 1 8) = false then 2 else if 64 < n then 8 else consE l by unfold fillE sizeOk; rw [HL.out])
  obtain ⟨E, hE⟩ : ∃ E, fillE W H l = E := ⟨_, rfl⟩
  rw [hE] at HV ⊢
  clear hE
  obtain ⟨q1, h1⟩ : ∃ v, inR W 1 8 = v := ⟨_, rfl⟩
  obtain ⟨q2, h2⟩ : ∃ v, inR H 1 8 = v := ⟨_, rfl⟩
  rw [h1, h2] at HV
  have H1 := Lib.hid h1
  have H2 := Lib.hid h2
  clear h1 h2
  have N0 := (New.refl w).alloc (.cells #[.int .i64 W, .int .i64 H] 101)
  obtain ⟨W0, hW0⟩ : ∃ X, w.alloc (.cells #[.int .i64 W, .int .i64 H] 101) = X := ⟨_, rfl⟩
  have b0 := Bx.mk w 101 #[.int .i64 W, .int .i64 H]
  rw [hW0] at N0 b0
  have k0 : W0.cell? ⟨w.heap.size, 0, none⟩ = some (.int .i64 W) := b0.cell 0
  have k1 : W0.cell? ⟨w.heap.size, 1, none⟩ = some (.int .i64 H) := b0.cell 1
  have l0 := b0.lt
  cases q1
  · go_enter Try.func59, Try.ntmps59
    go_wp2_with (go_at_call 19; refine (bWithin_any _ _ _ _).mono ?_; rintro e w' ⟨rfl, rfl⟩; first | rw [H1.out] | rw [H2.out])
    go_ret
    exact ⟨by rw [HV.out]; rfl, by try rw [hW0]
                                   exact N0⟩
  cases q2
  · go_enter Try.func59, Try.ntmps59
    go_wp2_with (go_at_call 19; refine (bWithin_any _ _ _ _).mono ?_; rintro e w' ⟨rfl, rfl⟩; first | rw [H1.out] | rw [H2.out])
    go_ret
    exact ⟨by rw [HV.out]; rfl, by try rw [hW0]
                                   exact N0⟩
  by_cases h64 : 64 < n
  · have HW := Lib.hid (HV.out.trans ((if_neg (by decide)).trans (if_pos h64)))
    go_enter Try.func59, Try.ntmps59
    go_wp2_with (go_at_call 19; refine (bWithin_any _ _ _ _).mono ?_; rintro e w' ⟨rfl, rfl⟩; first | rw [H1.out] | rw [H2.out])
    go_ret
    exact ⟨by rw [HW.out]; rfl, by try rw [hW0]
                                   exact N0⟩
  have HW := Lib.hid (HV.out.trans ((if_neg (by decide)).trans (if_neg h64)))
  clear HV
  go_enter Try.func59, Try.ntmps59
  go_wp2_with (go_at_call 19; refine (bWithin_any _ _ _ _).mono ?_; rintro e w' ⟨rfl, rfl⟩; first | rw [H1.out] | rw [H2.out])
  try rw [hW0]
  clear hW0 k0 k1 l0 b0
  go_loopw [5] (fun i wr => ∃ k : Nat, k ≤ n ∧ i = .int .i64 (k : Int) ∧ Hid (consE l = firstE ((l.map conF).drop k)) ∧ New W0 wr) (fun i _ => n - (intOf i).toNat)
  case atStart => exact ⟨0, by omega, rfl, rfl, New.refl _⟩
  case round =>
    obtain ⟨k, hk, rfl, HF, hN⟩ := hrel
    by_cases hlt : k < n
    · obtain ⟨b, o, r, xs, rfl, hb, hx, hc, hrow⟩ := (HR.out.keep (N0.trans hN)).at_ hlt
      have HST := Lib.hid (consE_drop hx)
      obtain ⟨RA, rn, rc⟩ := r
      have hxl : xs.length = rn := hrow.len
      have hrn : rn ≤ 1000000 := by rw [← hxl]; exact HRL.out xs (List.mem_of_getElem? hx)
      have HRW := Lib.hid hrow.2
      dsimp only at hc HRW
      have i0' : (0 : Int) ≤ (k : Int) := by omega
      have i1' : (k : Int) < (n : Int) := by omega
      clear hx hrow hxl
      obtain ⟨v, hv⟩ : ∃ v, (conS xs).2 = v := ⟨_, rfl⟩
      have HVV := Lib.hid hv
      rw [show conF xs = v from hv] at HST
      clear hv
      by_cases hv0 : v = 0
      · subst hv0
        have HST2 := Lib.hid (HST.out.trans (if_pos rfl))
        clear HST
        go_wp2_with fail
        refine (refContourErr_is HVV.out RA rn rc _ hrn HRW.out).mono ?_
        rintro e w2 ⟨rfl, n2⟩
        go_wp2_with fail
        go_roundw
        case rel => exact ⟨k + 1, by omega, by go_num, by unfold Hid; rw [HF.out, HST2.out], hN.trans n2⟩
        case measure => simp [intOf]; omega
      · have bv : (v != 0) = true := by simpa using hv0
        have HB := Lib.hid (show consE l = v by rw [HF.out, HST.out, if_neg hv0])
        clear hv0
        go_wp2_with fail
        refine (refContourErr_is HVV.out RA rn rc _ hrn HRW.out).mono ?_
        rintro e w2 ⟨rfl, n2⟩
        go_wp2_with fail
        go_ret
        exact ⟨by rw [HW.out, HB.out]; rfl, N0.trans (hN.trans n2)⟩
    · obtain rfl : k = n := by omega
      have HB := Lib.hid (show consE l = 0 by rw [HF.out, List.drop_of_length_le (by rw [List.length_map, HL.out]; exact Nat.le_refl _)]; rfl)
      go_wp2_with fail
      go_ret
      exact ⟨by rw [HW.out, HB.out]; rfl, N0.trans hN⟩
theorem refFillErr_is {W H v : Int} {l : List (List Pl)} (h : fillE W H l = v) (A : Option Addr) (n cap : Nat) (w : World) (hn : n ≤ 100000) (hrl : ∀ c ∈ l, c.length ≤ 1000000) (hr : RowsL w 2 encPl A n l) :
    Calls Try.prog 59 #[.agg #[.int .i64 W, .int .i64 H], .slice A n cap] w fun e w' => e = .returned (.int .i64 v) ∧ New w w' := h ▸ refFillErr_any W H A n cap l w hn hrl hr

set_option maxRecDepth 100000 in
set_option maxHeartbeats 8000000 in
theorem refFilled_any (W H : Nat) (A : Option Addr) (n cap : Nat) (l : List (List Pl)) (w : World) (hW : W ≤ 8) (hH : H ≤ 8) (hn : n ≤ 64) (hok : ∀ c ∈ l, (conS c).2 = 0) (hr : RowsL w 2 encPl A n l) :
    Calls Try.prog 60 #[.agg #[.int .i64 (W : Int), .int .i64 (H : Int)], .slice A n cap] w fun e w' => New w w' ∧ ∃ C c, e = .returned (.slice C H c) ∧ H ≤ c ∧ RowsL w' 1 encI C H (fillS l W H) := by
  obtain ⟨i0, hi, hz0, hz1, hz2⟩ := info_parts infoInt
  obtain ⟨i1, hi1, hy0, hy1, hy2⟩ := info_parts infoRowI
  have HL := Lib.hid hr.len
  have HR := Lib.hid hr
  have HOK := Lib.hid hok
  have HBD := Lib.hid (fun x y => sumT_bd hok x y)
  clear hr hok
  have N0 := (New.refl w).alloc (.cells #[.int .i64 (W : Int), .int .i64 (H : Int)] 101)
  have b0 := Bx.mk w 101 #[.int .i64 (W : Int), .int .i64 (H : Int)]
  obtain ⟨W0, hW0⟩ : ∃ X, w.alloc (.cells #[.int .i64 (W : Int), .int .i64 (H : Int)] 101) = X := ⟨_, rfl⟩
  rw [hW0] at N0 b0
  have hne : (3 : Nat) ≠ 22 := by decide
  go_enter Try.func60, Try.ntmps60
  go_wp2_with fail
  try rw [hW0]
  clear hW0
  obtain ⟨sb, hsb⟩ : ∃ s, w.heap.size = s := ⟨_, rfl⟩
  have HSB := Lib.hid hsb
  rw [hsb] at b0
  try rw [hsb]
  clear hsb
  go_loopw [5, 6] (fun out i wr => ∃ (k c : Nat) (C : Option Addr) (rv : List SlV), k ≤ H ∧ i = .int .i64 (k : Int) ∧ out = .slice C k c ∧ Hid (OwnRows wr W0.heap.size 3 22 1 encI C k c rv (fillS l W k)) ∧ New W0 wr) (fun _ i _ => H - (intOf i).toNat)
  case atStart => exact ⟨0, 0, none, [], by omega, rfl, rfl, OwnRows.nil, New.refl _⟩
  case round =>
    obtain ⟨k, c, C, rv, hk, rfl, rfl, HO, hN⟩ := hrel
    have bx := b0.keep hN
    have e0 : wr.cell? ⟨sb, 0, none⟩ = some (.int .i64 (W : Int)) := bx.cell 0
    have e1 : wr.cell? ⟨sb, 1, none⟩ = some (.int .i64 (H : Int)) := bx.cell 1
    have le := bx.lt
    by_cases hlt : k < H
    rotate_left
    · obtain rfl : k = H := by omega
      have HFO := Lib.hid HO.out
      go_wp2_with fail
      go_ret
      exact ⟨N0.trans hN, C, c, rfl, HFO.out.own.le.1, HFO.out.reads⟩
    have i1' : (k : Int) < (H : Int) := by omega
    obtain ⟨W1, hW1⟩ : ∃ X, wr = X := ⟨_, rfl⟩
    rw [hW1] at HO hN bx e0 e1 le ⊢
    clear hW1
    go_wp2_with fail
    go_loopw [7, 8] (fun cells i wx => ∃ (u c2 : Nat) (D : Option Addr), u ≤ W ∧ i = .int .i64 (u : Int) ∧ cells = .slice D u c2 ∧ Hid (Sky.Own wx W1.heap.size 3 1 encI D u c2 (rowT l (k : Int) u)) ∧ New W1 wx) (fun _ i _ => W - (intOf i).toNat)
    case atStart => exact ⟨0, 0, none, by omega, rfl, rfl, Sky.Own.nil _ _ _ _ encI_len, New.refl _⟩
    case round =>
      clear e0 e1 le
      obtain ⟨u, c2, D, hu, rfl, rfl, HD, hM⟩ := hrel
      have bx2 := bx.keep hM
      have e0 : wr.cell? ⟨sb, 0, none⟩ = some (.int .i64 (W : Int)) := bx2.cell 0
      have le := bx2.lt
      by_cases hul : u < W
      rotate_left
      · obtain rfl : u = W := by omega
        have HDR := Lib.hid (HD.out.base_le hN.size)
        have HOK2 := Lib.hid (HO.out.keep hM)
        have HFS := Lib.hid (fillS_step l u k)
        go_wp2_with ((at_builtin; refine wpList_pour _ rfl _ _ 41 rfl 22 i1 _ 1 24 Try.underlying41 hi1 hy0 hy1 hy2 rfl (by omega) W0.heap.size encSl _ _ _ _ rfl (HOK2.out.own.alloc _) _ 1 1 [(⟨D, u, c2⟩ : SlV)] rfl (by exact rd_bx (Bx.mk _ _ _) encSl_len _ rfl 1 rfl) encSl_one (by simp [maxLen]; omega) (by omega) ((hN.trans hM).alloc _).size ?_; intro A3 cap3 w3 hown3 hgr3 hN3))
        have n3 := hN3 W0 ((hN.trans hM).alloc _) (Nat.le_refl _)
        have HO3 := Lib.hid ((HOK2.out.keep ((New.refl wr).alloc (.cells #[.slice D u c2] 22))).snoc (HDR.out.alloc (.cells #[.slice D u c2] 22)) hne hown3 hgr3)
        clear hown3 hgr3 hN3
        go_wp2_with fail
        go_roundw
        case rel => exact ⟨k + 1, cap3, A3, _, by omega, by go_num, rfl, by unfold Hid; rw [HFS.out]; exact HO3.out, n3⟩
        case measure => simp [intOf]; omega
      have j1 : (u : Int) < (W : Int) := by omega
      obtain ⟨W2, hW2⟩ : ∃ X, wr = X := ⟨_, rfl⟩
      rw [hW2] at HD hM bx2 e0 le ⊢
      clear hW2
      go_wp2_with fail
      go_loopw [9, 10] (fun s i wz => ∃ (q : Nat), q ≤ n ∧ i = .int .i64 (q : Int) ∧ s = .int .i64 (sumT l (u : Int) (k : Int) q) ∧ New W2 wz) (fun _ i _ => n - (intOf i).toNat)
      case atStart => exact ⟨0, by omega, rfl, rfl, New.refl _⟩
      case round =>
        clear e0 le
        obtain ⟨q, hq, rfl, rfl, hZ⟩ := hrel
        have hbd := HBD.out (u : Int) (k : Int) q (by rw [HL.out]; exact hq)
        by_cases hql : q < n
        · obtain ⟨b, o, r, xs, rfl, hb, hx, hc, hrow⟩ := (HR.out.keep (N0.trans (hN.trans (hM.trans hZ)))).at_ hql
          obtain ⟨RA, rn, rc⟩ := r
          have hxl : xs.length = rn := hrow.len
          have hcon := HOK.out xs (List.mem_of_getElem? hx)
          have HSO := Lib.hid (steps_ok hcon)
          obtain ⟨h4, h200, hpl⟩ := conS_ok hcon
          rw [hxl] at h4 h200
          have HPL := Lib.hid hpl
          have HRW := Lib.hid hrow.2
          have HSM := Lib.hid (show sumT l (u : Int) (k : Int) (q + 1) = sumT l (u : Int) (k : Int) q + turnsS xs (u : Int) (k : Int) by rw [sumT, List.getD_eq_getElem?_getD, hx]; rfl)
          have htb := turnsTo_bd (steps_ok hcon) (u : Int) (k : Int) _ (Nat.le_refl _)
          rw [hxl] at htb
          obtain ⟨t, ht⟩ : ∃ t, turnsS xs (u : Int) (k : Int) = t := ⟨_, rfl⟩
          have HT := Lib.hid ht
          have htt : -200 ≤ t ∧ t ≤ 200 := by rw [← ht]; unfold turnsS; rw [hxl]; omega
          rw [ht] at HSM
          obtain ⟨z, hz⟩ : ∃ z, sumT l (u : Int) (k : Int) q = z := ⟨_, rfl⟩
          rw [hz] at hbd HSM ⊢
          dsimp only at hc HRW
          have q0 : (0 : Int) ≤ (q : Int) := by omega
          have q1 : (q : Int) < (n : Int) := by omega
          clear hx hrow hxl hcon hpl htb ht hz
          go_wp2_with fail
          refine (refTurns_is HT.out RA rn rc _ ⟨by omega, h200⟩ HRW.out HSO.out HPL.out ⟨by omega, by omega⟩).mono ?_
          rintro e w5 ⟨rfl, n5⟩
          go_wp2_with fail
          go_roundw
          case rel => exact ⟨q + 1, by omega, by go_num, by rw [HSM.out], hZ.trans n5⟩
          case measure => simp [intOf]; omega
        · obtain rfl : q = n := by omega
          have HRS := Lib.hid (rowT_step l (k : Int) u)
          rw [HL.out] at HRS
          obtain ⟨z, hz⟩ : ∃ z, sumT l (u : Int) (k : Int) q = z := ⟨_, rfl⟩
          rw [hz] at hbd HRS ⊢
          have HD2 := Lib.hid (HD.out.keep hZ)
          have hM2 := hM.trans hZ
          clear hz
          go_wp2_with ((at_builtin; refine wpList_pour _ rfl _ _ 22 rfl 3 i0 _ 1 8 Try.underlying22 hi hz0 hz1 hz2 rfl (by omega) W1.heap.size encI _ _ _ _ rfl (HD2.out.alloc _) _ 1 1 [(z : Int)] rfl (by exact rd_bx (Bx.mk _ _ _) encI_len _ rfl 1 rfl) encI_one (by simp [maxLen]; omega) (by omega) (hM2.alloc _).size ?_; intro A3 cap3 w3 hown3 hgr3 hN3))
          have n3 := hN3 W1 (hM2.alloc _) (Nat.le_refl _)
          have HO3 := Lib.hid hown3
          clear hown3 hgr3 hN3
          go_wp2_with fail
          go_roundw
          case rel => exact ⟨u + 1, cap3, A3, by omega, by go_num, rfl, by unfold Hid; rw [HRS.out]; exact HO3.out, n3⟩
          case measure => simp [intOf]; omega
end Go.Proofs.Ytaogolnoiffgiaa

namespace Go.Proofs.Ytaogolnoiffgiaa
open Go.RowKit Go.Sky Go.Sky.Ch

set_option maxRecDepth 100000 in
set_option maxHeartbeats 8000000 in
theorem cFilled_size (W H : Int) (A : Option Addr) (n cap : Nat) (l : List (List Pl)) (w : World) (hn : n ≤ 100000) (hl : l.length = n) (hz : sizeOk W H = false ∨ (sizeOk W H = true ∧ 64 < n)) :
    Calls Try.prog 57 #[.agg #[.int .i64 W, .int .i64 H], .slice A n cap] w fun e w' => e = .returned (.tuple #[.slice none 0 0, .int .i64 (fillE W H l)]) ∧ New w w' := by
  have N0 := (New.refl w).alloc (.cells #[.int .i64 W, .int .i64 H] 101)
  have b0 := Bx.mk w 101 #[.int .i64 W, .int .i64 H]
  obtain ⟨W0, hW0⟩ : ∃ X, w.alloc (.cells #[.int .i64 W, .int .i64 H] 101) = X := ⟨_, rfl⟩
  rw [hW0] at N0 b0
  have k0 : W0.cell? ⟨w.heap.size, 0, none⟩ = some (.int .i64 W) := b0.cell 0
  have k1 : W0.cell? ⟨w.heap.size, 1, none⟩ = some (.int .i64 H) := b0.cell 1
  have l0 := b0.lt
  obtain ⟨q1, h1⟩ : ∃ v, inR W 1 8 = v := ⟨_, rfl⟩
  obtain ⟨q2, h2⟩ : ∃ v, inR H 1 8 = v := ⟨_, rfl⟩
  have hq : sizeOk W H = (q1 && q2) := by unfold sizeOk; rw [h1, h2]
  have HF := Lib.hid (show fillE W H l = if (q1 && q2) = false then 2 else if 64 < n then 8 else consE l by unfold fillE; rw [hq, hl])
  rw [hq] at hz
  have H1 := Lib.hid h1
  have H2 := Lib.hid h2
  clear h1 h2 hq hl
  obtain ⟨t, ht⟩ : ∃ t, decide ((n : Int) ≤ 64) = t := ⟨_, rfl⟩
  obtain ⟨e8, h8⟩ : ∃ e, errU t 8 = e := ⟨_, rfl⟩
  have H8 := Lib.hid h8
  cases q1
  · have HV := Lib.hid (HF.out.trans (if_pos rfl))
    clear hz h8
    go_enter Try.func57, Try.ntmps57
    go_wp2_with (first | (go_at_call 112; refine (cIsCount_is H1.out _).mono ?_; rintro e w' ⟨rfl, rfl⟩) | (go_at_call 81; refine (cUnless_any _ _ _).mono ?_; rintro e w' ⟨rfl, rfl⟩; first | rw [show errU false 2 = 2 from rfl] | rw [H8.out]) | (go_at_call 80; refine (cFirst_any _ 2 2 [_, _] _ (by omega) rfl (cells_new _ _ _ _ (by simp) _ rfl)).mono ?_; rintro e w4 ⟨rfl, hw4⟩; rw [show firstE [2, e8] = 2 from rfl]; have n4 : New W0 w4 := hw4 ▸ (New.refl W0).alloc _; clear hw4))
    go_ret2
    exact ⟨by rw [HV.out]; rfl, N0.trans n4⟩
  cases q2
  · have HV := Lib.hid (HF.out.trans (if_pos rfl))
    clear hz h8
    go_enter Try.func57, Try.ntmps57
    go_wp2_with (first | (go_at_call 112; with_reducible refine Calls.mono (cIsCount_is H1.out _) ?_; rintro e w' ⟨rfl, rfl⟩) | (go_at_call 112; with_reducible refine Calls.mono (cIsCount_is H2.out _) ?_; rintro e w' ⟨rfl, rfl⟩) | (go_at_call 81; refine (cUnless_any _ _ _).mono ?_; rintro e w' ⟨rfl, rfl⟩; first | rw [show errU false 2 = 2 from rfl] | rw [H8.out]) | (go_at_call 80; refine (cFirst_any _ 2 2 [_, _] _ (by omega) rfl (cells_new _ _ _ _ (by simp) _ rfl)).mono ?_; rintro e w4 ⟨rfl, hw4⟩; rw [show firstE [2, e8] = 2 from rfl]; have n4 : New W0 w4 := hw4 ▸ (New.refl W0).alloc _; clear hw4))
    go_ret2
    exact ⟨by rw [HV.out]; rfl, N0.trans n4⟩
  · have h64 : 64 < n := by
      rcases hz with h | ⟨_, h⟩
      · cases h
      · exact h
    obtain rfl : t = false := by rw [← ht]; exact decide_eq_false (by omega)
    obtain rfl : e8 = 8 := h8.symm
    have HV := Lib.hid (HF.out.trans ((if_neg (by decide)).trans (if_pos h64)))
    clear hz h8 h64
    go_enter Try.func57, Try.ntmps57
    go_wp2_with (first | (go_at_call 112; with_reducible refine Calls.mono (cIsCount_is H1.out _) ?_; rintro e w' ⟨rfl, rfl⟩) | (go_at_call 112; with_reducible refine Calls.mono (cIsCount_is H2.out _) ?_; rintro e w' ⟨rfl, rfl⟩) | (go_at_call 81; refine (cUnless_any _ _ _).mono ?_; rintro e w' ⟨rfl, rfl⟩; first | rw [show errU true 2 = 0 from rfl] | rw [H8.out]) | (go_at_call 80; refine (cFirst_any _ 2 2 [_, _] _ (by omega) rfl (cells_new _ _ _ _ (by simp) _ rfl)).mono ?_; rintro e w4 ⟨rfl, hw4⟩; rw [show firstE [0, 8] = 8 from rfl]; have n4 : New W0 w4 := hw4 ▸ (New.refl W0).alloc _; clear hw4))
    go_ret2
    exact ⟨by rw [HV.out]; rfl, N0.trans n4⟩

/-- What Filled answers where the size is right. -/
def FillOut (w' : World) (W H : Nat) (l : List (List Pl)) (e : Ending) : Prop :=
  (∃ v, consE l = v ∧ v ≠ 0 ∧ e = .returned (.tuple #[.slice none 0 0, .int .i64 v])) ∨
  (consE l = 0 ∧ ∃ C c, e = .returned (.tuple #[.slice C H c, .int .i64 0]) ∧ H ≤ c ∧ RowsL w' 1 encI C H (fillS l W H))

set_option maxRecDepth 100000 in
set_option maxHeartbeats 16000000 in
theorem cFilled_in (W H : Nat) (A : Option Addr) (n cap : Nat) (l : List (List Pl)) (w : World) (hW : 1 ≤ W ∧ W ≤ 8) (hH : 1 ≤ H ∧ H ≤ 8) (hn : n ≤ 64) (hrl : ∀ c ∈ l, c.length ≤ 1000000) (hr : RowsL w 2 encPl A n l) :
    Calls Try.prog 57 #[.agg #[.int .i64 (W : Int), .int .i64 (H : Int)], .slice A n cap] w fun e w' => New w w' ∧ FillOut w' W H l e := by
  obtain ⟨i0, hi, hz0, hz1, hz2⟩ := info_parts infoInt
  obtain ⟨i1, hi1, hy0, hy1, hy2⟩ := info_parts infoRowI
  have HL := Lib.hid hr.len
  have HR := Lib.hid hr
  have HRL := Lib.hid hrl
  clear hr hrl
  have N0 := (New.refl w).alloc (.cells #[.int .i64 (W : Int), .int .i64 (H : Int)] 101)
  have b0 := Bx.mk w 101 #[.int .i64 (W : Int), .int .i64 (H : Int)]
  obtain ⟨W0, hW0⟩ : ∃ X, w.alloc (.cells #[.int .i64 (W : Int), .int .i64 (H : Int)] 101) = X := ⟨_, rfl⟩
  rw [hW0] at N0 b0
  have k0 : W0.cell? ⟨w.heap.size, 0, none⟩ = some (.int .i64 (W : Int)) := b0.cell 0
  have k1 : W0.cell? ⟨w.heap.size, 1, none⟩ = some (.int .i64 (H : Int)) := b0.cell 1
  have l0 := b0.lt
  have hne : (3 : Nat) ≠ 22 := by decide
  have H1 := Lib.hid (show inR (W : Int) 1 8 = true from inR_iff.2 (by omega))
  have H2 := Lib.hid (show inR (H : Int) 1 8 = true from inR_iff.2 (by omega))
  have d64 : decide ((n : Int) ≤ 64) = true := decide_eq_true (by omega)
  go_enter Try.func57, Try.ntmps57
  go_wp2_with (first | (go_at_call 112; with_reducible refine Calls.mono (cIsCount_is H1.out _) ?_; rintro e w' ⟨rfl, rfl⟩) | (go_at_call 112; with_reducible refine Calls.mono (cIsCount_is H2.out _) ?_; rintro e w' ⟨rfl, rfl⟩) | (go_at_call 81; refine (cUnless_any _ _ _).mono ?_; rintro e w' ⟨rfl, rfl⟩; first | rw [show errU true 2 = 0 from rfl] | rw [show errU true 8 = 0 from rfl]) | (go_at_call 80; refine (cFirst_any _ 2 2 [_, _] _ (by omega) rfl (cells_new _ _ _ _ (by simp) _ rfl)).mono ?_; rintro e W4 ⟨rfl, hW4⟩; rw [show firstE [0, 0] = 0 from rfl]; have n4 : New W0 W4 := hW4 ▸ (New.refl W0).alloc _; clear hW4))
  clear hW0 k0 k1 l0
  have N4 := N0.trans n4
  have b4 := b0.keep n4
  obtain ⟨sb, hsb⟩ : ∃ s, w.heap.size = s := ⟨_, rfl⟩
  rw [hsb] at b4
  try rw [hsb]
  clear hsb b0 N0 n4
  go_loopw [36] (fun i wr => ∃ k : Nat, k ≤ n ∧ i = .int .i64 (k : Int) ∧ Hid (consE l = firstE ((l.map conF).drop k)) ∧ New W4 wr) (fun i _ => n - (intOf i).toNat)
  case atStart => exact ⟨0, by omega, rfl, rfl, New.refl _⟩
  case round =>
    obtain ⟨k, hk, rfl, HF, hN⟩ := hrel
    by_cases hlt : k < n
    · obtain ⟨b, o, r, xs, rfl, hb, hx, hc, hrow⟩ := (HR.out.keep (N4.trans hN)).at_ hlt
      have HST := Lib.hid (consE_drop hx)
      obtain ⟨RA, rn, rc⟩ := r
      have hxl : xs.length = rn := hrow.len
      have hrn : rn ≤ 1000000 := by rw [← hxl]; exact HRL.out xs (List.mem_of_getElem? hx)
      have HRW := Lib.hid hrow.2
      dsimp only at hc HRW
      have i0' : (0 : Int) ≤ (k : Int) := by omega
      have i1' : (k : Int) < (n : Int) := by omega
      clear hx hrow hxl
      obtain ⟨v, hv⟩ : ∃ v, (conS xs).2 = v := ⟨_, rfl⟩
      have HVV := Lib.hid hv
      rw [show conF xs = v from hv] at HST
      clear hv
      by_cases hv0 : v = 0
      · subst hv0
        have HST2 := Lib.hid (HST.out.trans (if_pos rfl))
        clear HST
        go_wp2_with fail
        refine (cContourErr_is HVV.out RA rn rc _ hrn HRW.out).mono ?_
        rintro e w2 ⟨rfl, n2⟩
        go_wp2_with fail
        go_roundw
        case rel => exact ⟨k + 1, by omega, by go_num, by unfold Hid; rw [HF.out, HST2.out], hN.trans n2⟩
        case measure => simp [intOf]; omega
      · have bv : (v != 0) = true := by simpa using hv0
        have HB := Lib.hid (show consE l = v by rw [HF.out, HST.out, if_neg hv0])
        have HV0 := Lib.hid hv0
        clear hv0
        go_wp2_with fail
        refine (cContourErr_is HVV.out RA rn rc _ hrn HRW.out).mono ?_
        rintro e w2 ⟨rfl, n2⟩
        go_wp2_with fail
        go_ret2
        exact ⟨N4.trans (hN.trans n2), .inl ⟨v, HB.out, HV0.out, rfl⟩⟩
    · obtain rfl : k = n := by omega
      have HC0 := Lib.hid (show consE l = 0 by rw [HF.out, List.drop_of_length_le (by rw [List.length_map, HL.out]; exact Nat.le_refl _)]; rfl)
      have HOK := Lib.hid (consE_ok HC0.out)
      have HBD := Lib.hid (fun x y => sumT_bd HOK.out x y)
      have N5 := N4.trans hN
      have b5 := b4.keep hN
      obtain ⟨W5, hW5⟩ : ∃ X, wr = X := ⟨_, rfl⟩
      rw [hW5] at N5 b5 ⊢
      have e0 : W5.cell? ⟨sb, 0, none⟩ = some (.int .i64 (W : Int)) := b5.cell 0
      have e1 : W5.cell? ⟨sb, 1, none⟩ = some (.int .i64 (H : Int)) := b5.cell 1
      have le := b5.lt
      clear hW5 hN HF b4
      go_wp2_with fail
      go_loopw [10, 48] (fun out i wr => ∃ (j c : Nat) (C : Option Addr) (rv : List SlV), j ≤ H ∧ i = .int .i64 (j : Int) ∧ out = .slice C j c ∧ Hid (OwnRows wr W5.heap.size 3 22 1 encI C j c rv (fillS l W j)) ∧ New W5 wr) (fun _ i _ => H - (intOf i).toNat)
      case atStart => exact ⟨0, 0, none, [], by omega, rfl, rfl, OwnRows.nil, New.refl _⟩
      case round =>
        clear e0 e1 le
        obtain ⟨j, c, C, rv, hj, rfl, rfl, HO, hN⟩ := hrel
        have bx := b5.keep hN
        have e0 : wr.cell? ⟨sb, 0, none⟩ = some (.int .i64 (W : Int)) := bx.cell 0
        have le := bx.lt
        by_cases hjl : j < H
        rotate_left
        · obtain rfl : j = H := by omega
          have HFO := Lib.hid HO.out
          go_wp2_with fail
          go_ret2
          exact ⟨N5.trans hN, .inr ⟨HC0.out, C, c, rfl, HFO.out.own.le.1, HFO.out.reads⟩⟩
        have j1' : (j : Int) < (H : Int) := by omega
        obtain ⟨W6, hW6⟩ : ∃ X, wr = X := ⟨_, rfl⟩
        rw [hW6] at HO hN bx e0 le ⊢
        clear hW6
        go_wp2_with (refine wpList_mk _ rfl _ _ 22 rfl W6.heap.size 3 i0 _ Try.underlying22 hi hz0 hz1 rfl encI (fun _ => rfl) 0 rfl W rfl rfl (by rw [hz2]; omega) (by unfold maxLen; omega) (Nat.le_refl _) ?_; intro W7 hown n7 hlt7)
        obtain ⟨g, hg⟩ : ∃ g, W6.heap.size = g := ⟨_, rfl⟩
        have HOWN := Lib.hid hown
        rw [hg] at HOWN
        try rw [hg]
        have HG := Lib.hid hg
        clear hown hg hlt7
        go_wp2_with fail
        go_loopw [56] (fun i wx => ∃ (u : Nat) (xs : List Int), u ≤ W ∧ i = .int .i64 (u : Int) ∧ Sky.Own wx g 3 1 encI (some ⟨g, 0, none⟩) W W xs ∧ Hid ((∀ m : Nat, m < u → xs[m]? = some (sumT l (m : Int) (j : Int) k)) ∧ ∀ m, u ≤ m → m < W → xs[m]? = some 0) ∧ New W6 wx) (fun i _ => W - (intOf i).toNat)
        case atStart => exact ⟨0, _, by omega, rfl, HOWN.out, ⟨fun m hm => absurd hm (by omega), fun m _ hm => by rw [List.getElem?_replicate, if_pos hm]⟩, n7⟩
        case round =>
          clear HOWN n7 e0 le
          obtain ⟨u, xs, hu, rfl, hown, HXS, hM⟩ := hrel
          by_cases hul : u < W
          rotate_left
          · obtain rfl : u = W := by omega
            have HROW := Lib.hid (show xs = rowT l (j : Int) u by
              unfold rowT
              refine list_of hown.len (fun m hm => ?_)
              rw [HL.out]
              exact HXS.out.1 m hm)
            have HDR := Lib.hid (hown.base_le (by rw [← HG.out]; exact hN.size))
            have HOK2 := Lib.hid (HO.out.keep hM)
            have HFS := Lib.hid (fillS_step l u j)
            clear hown
            go_wp2_with ((at_builtin; refine wpList_pour _ rfl _ _ 41 rfl 22 i1 _ 1 24 Try.underlying41 hi1 hy0 hy1 hy2 rfl (by omega) W5.heap.size encSl _ _ _ _ rfl (HOK2.out.own.alloc _) _ 1 1 [(⟨some ⟨g, 0, none⟩, u, u⟩ : SlV)] rfl (by exact rd_bx (Bx.mk _ _ _) encSl_len _ rfl 1 rfl) encSl_one (by simp [maxLen]; omega) (by omega) ((hN.trans hM).alloc _).size ?_; intro A3 cap3 w3 hown3 hgr3 hN3))
            have n3 := hN3 W5 ((hN.trans hM).alloc _) (Nat.le_refl _)
            have HO3 := Lib.hid ((HOK2.out.keep ((New.refl wr).alloc (.cells #[.slice (some ⟨g, 0, none⟩) u u] 22))).snoc (HDR.out.alloc (.cells #[.slice (some ⟨g, 0, none⟩) u u] 22)) hne hown3 hgr3)
            clear hown3 hgr3 hN3
            go_wp2_with fail
            go_roundw
            case rel => exact ⟨j + 1, cap3, A3, _, by omega, by go_num, rfl, by unfold Hid; rw [HFS.out, ← HROW.out]; exact HO3.out, n3⟩
            case measure => simp [intOf]; omega
          have j1 : (u : Int) < (W : Int) := by omega
          have HXU := Lib.hid (show xs[u]? = some (sumT l (u : Int) (j : Int) 0) from HXS.out.2 u (Nat.le_refl _) hul)
          go_wp2_with fail
          go_loopw [61] (fun i wz => ∃ (q : Nat) (ys : List Int), q ≤ k ∧ i = .int .i64 (q : Int) ∧ Sky.Own wz g 3 1 encI (some ⟨g, 0, none⟩) W W ys ∧ Hid ((∀ m : Nat, m < u → ys[m]? = some (sumT l (m : Int) (j : Int) k)) ∧ ys[u]? = some (sumT l (u : Int) (j : Int) q) ∧ ∀ m, u < m → m < W → ys[m]? = some 0) ∧ New W6 wz) (fun i _ => k - (intOf i).toNat)
          case atStart => exact ⟨0, xs, by omega, rfl, hown, ⟨HXS.out.1, HXU.out, fun m hm hm2 => HXS.out.2 m (by omega) hm2⟩, hM⟩
          case round =>
            clear hown hM HXS HXU
            obtain ⟨q, ys, hq, rfl, hown, HYS, hZ⟩ := hrel
            have hbd := HBD.out (u : Int) (j : Int) q (by rw [HL.out]; exact hq)
            by_cases hql : q < k
            · obtain ⟨b, o, r, ps, rfl, hb, hx, hc, hrow⟩ := (HR.out.keep (N5.trans (hN.trans hZ))).at_ hql
              obtain ⟨RA, rn, rc⟩ := r
              have hxl : ps.length = rn := hrow.len
              have hcon := HOK.out ps (List.mem_of_getElem? hx)
              have HSO := Lib.hid (steps_ok hcon)
              obtain ⟨h4, h200, hpl⟩ := conS_ok hcon
              rw [hxl] at h4 h200
              have HPL := Lib.hid hpl
              have HRW := Lib.hid hrow.2
              have HSM := Lib.hid (show sumT l (u : Int) (j : Int) (q + 1) = sumT l (u : Int) (j : Int) q + turnsS ps (u : Int) (j : Int) by rw [sumT, List.getD_eq_getElem?_getD, hx]; rfl)
              have htb := turnsTo_bd (steps_ok hcon) (u : Int) (j : Int) _ (Nat.le_refl _)
              rw [hxl] at htb
              obtain ⟨t, ht⟩ : ∃ t, turnsS ps (u : Int) (j : Int) = t := ⟨_, rfl⟩
              have HT := Lib.hid ht
              have htt : -200 ≤ t ∧ t ≤ 200 := by rw [← ht]; unfold turnsS; rw [hxl]; omega
              rw [ht] at HSM
              obtain ⟨z, hz⟩ : ∃ z, sumT l (u : Int) (j : Int) q = z := ⟨_, rfl⟩
              rw [hz] at hbd HSM HYS
              dsimp only at hc HRW
              have q0 : (0 : Int) ≤ (q : Int) := by omega
              have q1 : (q : Int) < (k : Int) := by omega
              have u0 : (0 : Int) ≤ (u : Int) := by omega
              have cr := hown.cell1 u z _ HYS.out.2.1 rfl
              have lg : g < wr.heap.size := own_lt hown
              have hyl := hown.len
              clear hx hrow hxl hcon hpl htb ht hz
              go_wp2_with fail
              (refine wp_region_tail 11 (by kernel_rfl) (by kernel_rfl) ?_; simp only [List.take_succ_cons, List.take_zero, List.drop_succ_cons, List.drop_zero]; (repeat (go_big_quiet_step (((go_at_call 109; exact quiet_new (cTurns_is HT.out RA rn rc _ (by omega) h200 (by exact HRW.out.keep (plus_new _ _)) HSO.out HPL.out)))))); refine wpQuiet_nil ?_)
              intro w3 n3
              have hown3 := hown.keep n3
              have cr3 := hown3.cell1 u z _ HYS.out.2.1 rfl
              have fr3 := hown3.free u
              have lg3 : g < w3.heap.size := own_lt hown3
              have HO4 := Lib.hid (hown3.set1 u (z + t) (.int .i64 (z + t)) hul rfl)
              have HN4 := Lib.hid ((hZ.trans n3).setCell (p := ⟨g, u, none⟩) (by show W6.heap.size ≤ g; rw [HG.out]; exact Nat.le_refl _) (.int .i64 (z + t)))
              have HY4 := Lib.hid (show (∀ m : Nat, m < u → (ys.set u (z + t))[m]? = some (sumT l (m : Int) (j : Int) k)) ∧ (ys.set u (z + t))[u]? = some (sumT l (u : Int) (j : Int) (q + 1)) ∧ ∀ m, u < m → m < W → (ys.set u (z + t))[m]? = some 0 from
                ⟨fun m hm => by rw [List.getElem?_set_ne (by omega)]; exact HYS.out.1 m hm, by rw [List.getElem?_set_self (by omega), HSM.out], fun m hm hm2 => by rw [List.getElem?_set_ne (by omega)]; exact HYS.out.2.2 m hm hm2⟩)
              clear hown3 hown
              go_wp2_with fail
              go_roundw
              case rel => exact ⟨q + 1, _, by omega, by go_num, HO4.out, HY4.out, HN4.out⟩
              case measure => simp [intOf]; omega
            · obtain rfl : q = k := by omega
              have HXN := Lib.hid (show (∀ m : Nat, m < u + 1 → ys[m]? = some (sumT l (m : Int) (j : Int) q)) ∧ ∀ m, u + 1 ≤ m → m < W → ys[m]? = some 0 from
                ⟨fun m hm => by
                  rcases Nat.lt_or_ge m u with h | h
                  · exact HYS.out.1 m h
                  · obtain rfl : m = u := by omega
                    exact HYS.out.2.1, fun m hm hm2 => HYS.out.2.2 m (by omega) hm2⟩)
              have HOX := Lib.hid hown
              clear hown
              go_wp2_with fail
              go_roundw
              case rel => exact ⟨u + 1, ys, by omega, by go_num, HOX.out, HXN.out, hZ⟩
              case measure => simp [intOf]; omega
end Go.Proofs.Ytaogolnoiffgiaa
