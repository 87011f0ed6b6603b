/- Contracts: the document's stations and grid, copies of polygons.
   Contracts: chapter 6 is awake.
   The walk of ChartPolygons. -/
import Derived.BigQuiet
import Derived.BigRegion
import Derived.Deep.AppendLies
import Derived.Deep.Draws
import Derived.Deep.Quiet
import Derived.Deep.QuietTactic
import Derived.DeepKeys4
import Derived.Laws.BitsAllLaws
import Derived.Laws.Rows
import Derived.Lib.Hide
import Derived.Lib.SliceRun
import Derived.LoopIn
import Derived.LoopNIn
import Derived.MapKept
import Derived.Maps.Keyed
import Derived.Maps.OwnIn
import Derived.Maps.OwnSet
import Derived.OrdersIn
import Derived.OwnWalkIn
import Derived.RangeFuncBound
import Derived.RangeFuncCalls
import Derived.RangeFuncLeaves
import Derived.RangeFuncNested
import Derived.Shelf.Abstract
import Derived.Shelf.GgSortFunc.InsertionK
import Derived.Shelf.RegionOpen
import Derived.Shelf.SlSortCmp.NoneTotal
import Derived.Shelf.SlSortCmp.QuietGrown
import Derived.Shelf.SlSortCmp.WholeK
import Derived.StillTail
import Derived.TacticsIn
import Derived.TacticsInMore
import Derived.Test.YtaogolnoiffgiaaProg
import Derived.WalkArith
import Derived.WalkKit
import Derived.WalkLawsBesides
import Derived.WalkSpells
import Derived.Test.YtaogolnoiffgiaaC20L
import Derived.Test.YtaogolnoiffgiaaC20U
import Derived.Test.YtaogolnoiffgiaaC20ZA
import Derived.Test.YtaogolnoiffgiaaC20ZB
import Derived.Test.YtaogolnoiffgiaaC20ZC

namespace Go.Proofs.Ytaogolnoiffgiaa
open Go.RowKit Go.Sky Go.Sky.Ch

def stA : Sta := ⟨⟨#[97]⟩, 0, 0, 10, 10, 0⟩
def stB : Sta := ⟨⟨#[98]⟩, 3, 0, 40, 43, 5⟩
theorem cStations_any (w : World) : Calls Try.prog 77 #[] w fun e w' => New w w' ∧ ∃ b, e = .returned (.slice (some ⟨b, 0, none⟩) 2 2) ∧ Rd w' 6 encSt (some ⟨b, 0, none⟩) 2 [stA, stB] := by
  go_enter Try.func77, Try.ntmps77
  go_wp2
  go_ret
  exact ⟨(New.refl w).alloc _, _, rfl, rd_bx (Bx.mk _ _ _) encSt_len _ rfl 2 rfl⟩
theorem cGrid_any (w : World) : Calls Try.prog 79 #[] w fun e w' => New w w' ∧ ∃ A, e = .returned (.slice A 3 3) ∧ RowsL w' 1 encI A 3 gridD := by
  go_enter Try.func79, Try.ntmps79
  go_wp2
  go_ret
  refine ⟨(((((New.refl w).alloc _).alloc _).alloc _).alloc _), _, rfl, [⟨some ⟨w.heap.size, 0, none⟩, 3, 3⟩, ⟨some ⟨w.heap.size + 1, 0, none⟩, 3, 3⟩, ⟨some ⟨w.heap.size + 1 + 1, 0, none⟩, 3, 3⟩], ?_, ?_⟩
  · exact rd_bx (Bx.mk_at _ _ _ (w.heap.size + 1 + 1 + 1) (by simp)) encSl_len _ rfl 3 rfl
  · refine ⟨rfl, fun i r xs hr hx => ?_⟩
    rcases (show i = 0 ∨ i = 1 ∨ i = 2 ∨ 3 ≤ i by omega) with rfl | rfl | rfl | h
    · injection hr with hr
      injection hx with hx
      subst hr hx
      exact ⟨Nat.le_refl _, rd_bx ((((Bx.mk w _ _).alloc _).alloc _).alloc _) encI_len _ rfl 3 rfl⟩
    · injection hr with hr
      injection hx with hx
      subst hr hx
      exact ⟨Nat.le_refl _, rd_bx (((Bx.mk_at _ _ _ (w.heap.size + 1) (by simp)).alloc _).alloc _) encI_len _ rfl 3 rfl⟩
    · injection hr with hr
      injection hx with hx
      subst hr hx
      exact ⟨Nat.le_refl _, rd_bx ((Bx.mk_at _ _ _ (w.heap.size + 1 + 1) (by simp)).alloc _) encI_len _ rfl 3 rfl⟩
    · rw [List.getElem?_eq_none (by simpa using h)] at hr
      cases hr
set_option maxHeartbeats 2000000 in
theorem cCopyContour_any (A : Option Addr) (n cap : Nat) (c : List Pl) (w : World) (hn : n ≤ 1000000) (hr : Rd w 2 encPl A n c) :
    Calls Try.prog 47 #[.slice A n cap] w fun e w' => New w w' ∧ ∃ B k, e = .returned (.slice B n k) ∧ n ≤ k ∧ Rd w' 2 encPl B n c := by
  obtain ⟨i0, hi, hz0, hz1, hz2⟩ := info_parts infoPl
  have HR := Lib.hid (hr.keep ((New.refl w).alloc (.cells #[] 73)))
  have HO := Lib.hid (Sky.Own.empty w w.heap.size 73 2 encPl_len w.heap.size rfl (Nat.le_refl _))
  have N1 := (New.refl w).alloc (.cells #[] 73)
  clear hr
  go_enter Try.func47, Try.ntmps47
  go_wp2_with (at_builtin; refine wpList_pour _ rfl _ _ 82 rfl 73 i0 _ 2 16 Try.underlying82 hi hz0 hz1 hz2 rfl (by omega) w.heap.size encPl _ 0 0 [] rfl HO.out A n cap c rfl HR.out encPl_one (by simp only [maxLen]; omega) (by omega) N1.size ?_; intro A7 cap7 w7 hown7 hgr7 hN7)
  go_ret
  rw [Nat.zero_add, List.nil_append] at hown7
  exact ⟨hN7 w N1 (Nat.le_refl _), A7, cap7, rfl, hown7.le.1, hown7.rd⟩
end Go.Proofs.Ytaogolnoiffgiaa

namespace Go.Proofs.Ytaogolnoiffgiaa
open Go.RowKit Go.Sky Go.Sky.Ch

theorem awake_val : valueS [stA, stB] 1 0 = ⟨(40, 3), (41, 3), 0⟩ := by
  have h : (valueS [stA, stB] 1 0).a = (40, 3) ∧ (valueS [stA, stB] 1 0).b = (41, 3) ∧ (valueS [stA, stB] 1 0).e = 0 := by decide
  rcases hv : valueS [stA, stB] 1 0 with ⟨a, b, e⟩
  rw [hv] at h
  obtain ⟨rfl, rfl, rfl⟩ := h
  rfl
theorem awake_worst : worstS [stA, stB] = (⟨#[97]⟩, 0) := by decide
theorem cValueAt_is {l : List Sta} {x y : Int} {v : SpanV} (h : valueS l x y = v) (A : Option Addr) (n cap : Nat) (w : World) (hn : n ≤ 1000000) (hr : Rd w 6 encSt A n l) (hs : ∀ s ∈ l, s.n.size ≤ 1000) :
    Calls Try.prog 76 #[.slice A n cap, .agg #[.int .i64 x, .int .i64 y]] w fun e w' => e = .returned (.tuple #[.agg #[.int .i64 v.a.1, .int .i64 v.a.2, .int .i64 v.b.1, .int .i64 v.b.2], .int .i64 v.e]) ∧ New w w' := h ▸ cValueAt_any A n cap l x y w hn hr hs
theorem cWorstOf_is {l : List Sta} {v : ByteArray × Int} (h : worstS l = v) (A : Option Addr) (n cap : Nat) (w : World) (hn : n ≤ 1000000) (hcap : n ≤ cap) (hr : Rd w 6 encSt A n l) (hs : ∀ s ∈ l, s.n.size ≤ 1000) :
    Calls Try.prog 78 #[.slice A n cap] w fun e w' => e = .returned (.tuple #[.string v.1, .int .i64 v.2]) ∧ New w w' := h ▸ cWorstOf_any A n cap l w hn hcap hr hs
theorem stSizes : ∀ s ∈ [stA, stB], s.n.size ≤ 1000 := by decide
/-- The contours of the document's grid. -/
theorem cContoursD (A : Option Addr) (cap : Nat) (w : World) (hr : RowsL w 1 encI A 3 gridD) :
    Calls Try.prog 25 #[.slice A 3 cap, .int .i64 3] w fun e w' => New w w' ∧ ∃ C c, e = .returned (.tuple #[.slice C 2 c, .int .i64 0]) ∧ 2 ≤ c ∧ RowsL w' 2 encPl C 2 [contD0, contD1] := by
  refine (cContoursOf_any A 3 cap gridD 3 w (by omega) (by decide) hr).mono ?_
  rintro e w' ⟨hn, h⟩
  refine ⟨hn, ?_⟩
  rcases h with ⟨v, hv, hv0, _⟩ | ⟨_, ys, C, m, c, ⟨hs1, hs2⟩, he, hmc, hrr⟩
  · rw [gridD_open] at hv
    exact absurd hv.symm hv0
  · obtain rfl := sidesD_is hs1 hs2
    rw [contD] at hrr
    have := hrr.len
    obtain rfl : 2 = m := this
    exact ⟨C, c, he, hmc, hrr⟩
theorem cLitD (w : World) : Calls Try.prog 32 #[.agg #[.int .i64 100, .int .i64 0, .int .i64 10], .agg #[.int .i64 50, .int .i64 80, .int .i64 0], .int .i64 1000] w fun e w' => e = .returned (.tuple #[.int .i64 2, .int .i64 0]) ∧ New w w' := by
  refine (cLitAt_any ⟨100, 0, 10⟩ ⟨50, 80, 0⟩ 1000 w).mono ?_
  rintro e w' ⟨hn, h⟩
  rcases h with ⟨v, hv, hv0, _⟩ | ⟨_, he⟩
  · rw [awake_lit.1] at hv
    exact absurd hv.symm hv0
  · rw [awake_lit.2] at he
    exact ⟨he, hn⟩
theorem cAreaD (A : Option Addr) (cap : Nat) (w : World) (hr : Rd w 2 encPl A 4 contD1) : Calls Try.prog 48 #[.slice A 4 cap] w fun e w' => e = .returned (.tuple #[.int .i64 (-1), .int .i64 0]) ∧ New w w' := by
  refine (cAreaOf_any A 4 cap contD1 w (by omega) hr).mono ?_
  rintro e w' ⟨hn, h⟩
  rcases h with ⟨v, hv, hv0, _⟩ | ⟨_, he⟩
  · rw [contD1_ok] at hv
    exact absurd hv.symm hv0
  · rw [contD1_area] at he
    exact ⟨he, hn⟩

set_option maxRecDepth 100000 in
set_option maxHeartbeats 8000000 in
theorem awake6_any (w : World) : Calls Try.prog 20 #[] w fun e w' => e = .returned (.bool true) ∧ New w w' := by
  go_enter Try.func20, Try.ntmps20
  go_wp2_with fail
  refine (cStations_any _).mono ?_
  rintro e w1 ⟨n1, b1, rfl, r1⟩
  go_wp2_with fail
  refine (cValueAt_is awake_val _ 2 2 _ (by omega) r1 stSizes).mono ?_
  rintro e w2 ⟨rfl, n2⟩
  have b2 := Bx.mk w2 137 #[.int .i64 40, .int .i64 3, .int .i64 41, .int .i64 3]
  have N2 := (n1.trans n2).alloc (.cells #[.int .i64 40, .int .i64 3, .int .i64 41, .int .i64 3] 137)
  obtain ⟨W2, hW2⟩ : ∃ W2, w2.alloc (.cells #[.int .i64 40, .int .i64 3, .int .i64 41, .int .i64 3] 137) = W2 := ⟨_, rfl⟩
  rw [hW2] at b2 N2
  obtain ⟨sb, hsb⟩ : ∃ b, w2.heap.size = b := ⟨_, rfl⟩
  rw [hsb] at b2
  clear r1 n1 n2
  go_wp2_with fail
  try rw [hW2]
  try rw [hsb]
  clear hW2 hsb
  refine (cStations_any _).mono ?_
  rintro e w3 ⟨n3, b3, rfl, r3⟩
  go_wp2_with fail
  refine (cWorstOf_is awake_worst _ 2 2 _ (by omega) (by omega) r3 stSizes).mono ?_
  rintro e w4 ⟨rfl, n4⟩
  have N4 := N2.trans (n3.trans n4)
  have B4 := b2.keep (n3.trans n4)
  clear r3 n3 n4 b2 N2
  go_wp2_with fail
  refine (cGrid_any _).mono ?_
  rintro e w5 ⟨n5, GA, rfl, g5⟩
  go_wp2_with fail
  refine (cContoursD GA 3 _ g5).mono ?_
  rintro e w6 ⟨n6, C, c, rfl, hc, r6⟩
  have N6 := N4.trans (n5.trans n6)
  have B6 := B4.keep (n5.trans n6)
  clear g5 n5 n6 B4 N4
  go_wp2_with fail
  refine (cLitD _).mono ?_
  rintro e w7 ⟨rfl, n7⟩
  have N7 := N6.trans n7
  have B7 := B6.keep n7
  have r7 := r6.keep n7
  clear n7 B6 N6 r6
  obtain ⟨b, o, r, xs, rfl, hb, hx, hcl, hrow⟩ := r7.at_ (show 1 < 2 by omega)
  injection hx with hx
  subst hx
  obtain ⟨RA, rn, rc⟩ := r
  have hrl : 4 = rn := hrow.len
  subst hrl
  have hrd := hrow.2
  dsimp only at hcl hrd
  clear hrow
  go_wp2_with fail
  refine (cCopyContour_any RA 4 rc contD1 _ (by omega) hrd).mono ?_
  rintro e w8 ⟨n8, D, k, rfl, hk, hd⟩
  go_wp2_with fail
  refine (cAreaD D k _ hd).mono ?_
  rintro e w9 ⟨rfl, n9⟩
  have N9 := N7.trans (n8.trans n9)
  have B9 := B7.keep (n8.trans n9)
  obtain ⟨b', o', r0, xs0, hA, hb0, hx0, hcl0, hrow0⟩ := (r7.keep (n8.trans n9)).at_ (show 0 < 2 by omega)
  injection hA with hA
  injection hA with ea eb
  subst ea eb
  injection hx0 with hx0
  subst hx0
  obtain ⟨R0, m0, c0⟩ := r0
  have hrl0 : 12 = m0 := hrow0.len
  subst hrl0
  dsimp only at hcl0
  simp only [Nat.add_zero] at hcl0
  clear hrow0 n8 n9 B7 N7
  have k0 := B9.cell 0
  have k1 := B9.cell 1
  have k2 := B9.cell 2
  have k3 := B9.cell 3
  have lb := B9.lt
  simp only [List.getElem?_toArray, List.getElem?_cons_zero, List.getElem?_cons_succ] at k0 k1 k2 k3
  go_wp2_with fail
  go_ret
  exact ⟨rfl, N9⟩
end Go.Proofs.Ytaogolnoiffgiaa

namespace Go.Proofs.Ytaogolnoiffgiaa
open Go.RowKit Go.Sky Go.Sky.Ch

def arV (c : List Pl) : Int := if (conS c).2 = 0 then areaS c else 0
theorem cAreaOf_is {c : List Pl} {v E : Int} (h1 : arV c = v) (h2 : (conS c).2 = E) (A : Option Addr) (m cap : Nat) (w : World) (hm : m ≤ 1000000) (hr : Rd w 2 encPl A m c) :
    Calls Try.prog 48 #[.slice A m cap] w fun e w' => e = .returned (.tuple #[.int .i64 v, .int .i64 E]) ∧ New w w' := by
  refine (cAreaOf_any A m cap c w hm hr).mono ?_
  rintro e w' ⟨hn, ⟨r, h3, h4, he⟩ | ⟨h3, he⟩⟩
  · rw [h2] at h3
    subst h3
    unfold arV at h1
    rw [if_neg (by rw [h2]; exact h4)] at h1
    rw [← h1]
    exact ⟨he, hn⟩
  · unfold arV at h1
    rw [if_pos h3] at h1
    rw [h2] at h3
    rw [← h1, h3]
    exact ⟨he, hn⟩
theorem cCheckContour_is {c : List Pl} {u v : Int} (h1 : (conS c).1 = u) (h2 : (conS c).2 = v) (A : Option Addr) (n cap : Nat) (w : World) (hn : n ≤ 1000000) (hr : Rd w 2 encPl A n c) :
    Calls Try.prog 46 #[.slice A n cap] w fun e w' => e = .returned (.tuple #[.int .i64 u, .int .i64 v]) ∧ New w w' := h1 ▸ h2 ▸ cCheckContour_any A n cap c w hn hr
theorem poly_cases (c : List Pl) (x y : Int) : ∃ E P K a v t : Int, (conS c).2 = E ∧ placeE x y = P ∧ tuE c x y = K ∧ arV c = a ∧ tuV c x y = v ∧ turnsS c x y = t ∧
    ((E ≠ 0 ∧ (E != 0) = true ∧ K = E ∧ a = 0 ∧ v = 0) ∨ (E = 0 ∧ (P != 0) = true ∧ K = P ∧ v = 0 ∧ a = areaS c) ∨ (E = 0 ∧ P = 0 ∧ K = 0 ∧ a = areaS c ∧ v = t)) := by
  refine ⟨_, _, _, _, _, _, rfl, rfl, rfl, rfl, rfl, rfl, ?_⟩
  by_cases h1 : (conS c).2 = 0
  · by_cases h2 : placeE x y = 0
    · have hk : tuE c x y = 0 := by unfold tuE; rw [h1, h2]; rfl
      exact .inr (.inr ⟨h1, h2, hk, by unfold arV; rw [if_pos h1], by unfold tuV; rw [if_pos hk]⟩)
    · have hk : tuE c x y = placeE x y := by unfold tuE; rw [h1]; exact firstE_ne (l := []) h2
      exact .inr (.inl ⟨h1, by simpa using h2, hk, by unfold tuV; rw [if_neg (by rw [hk]; exact h2)], by unfold arV; rw [if_pos h1]⟩)
  · have hk : tuE c x y = (conS c).2 := firstE_ne h1
    exact .inl ⟨h1, by simpa using h1, hk, by unfold arV; rw [if_neg h1], by unfold tuV; rw [if_neg (by rw [hk]; exact h1)]⟩

set_option maxRecDepth 100000 in
set_option maxHeartbeats 8000000 in
theorem polygons_any (A : Option Addr) (n cap : Nat) (c : List Pl) (x y : Int) (w : World) (hr : Rd w 2 encPl A n c) :
    Calls Try.prog 7 #[.slice A n cap, .agg #[.int .i64 x, .int .i64 y]] w fun e w' => e = .returned (.bool true) ∧ New w w' := by
  have HL := Lib.hid hr.len
  have HR := Lib.hid hr
  clear hr
  have N0 := (New.refl w).alloc (.cells #[.int .i64 x, .int .i64 y] 73)
  have b0 := Bx.mk w 73 #[.int .i64 x, .int .i64 y]
  obtain ⟨W0, hW0⟩ : ∃ W, w.alloc (.cells #[.int .i64 x, .int .i64 y] 73) = W := ⟨_, rfl⟩
  obtain ⟨sb, hsb⟩ : ∃ s, w.heap.size = s := ⟨_, rfl⟩
  rw [hW0] at N0 b0
  rw [hsb] at b0
  by_cases h202 : 202 < n
  · go_enter Try.func7, Try.ntmps7
    go_wp2_with fail
    try rw [hW0]
    try rw [hsb]
    clear hW0 hsb
    refine (awake6_any _).mono ?_
    rintro e w1 ⟨rfl, n1⟩
    go_wp2_with fail
    go_ret
    exact ⟨rfl, N0.trans n1⟩
  by_cases h60 : 60 < n ∧ n ≤ 200
  · obtain ⟨h60, h200⟩ := h60
    go_enter Try.func7, Try.ntmps7
    go_wp2_with fail
    try rw [hW0]
    try rw [hsb]
    clear hW0 hsb
    refine (awake6_any _).mono ?_
    rintro e w1 ⟨rfl, n1⟩
    go_wp2_with fail
    go_ret
    exact ⟨rfl, N0.trans n1⟩
  have hgo : (¬ 60 < n) ∨ (60 < n ∧ ¬ n ≤ 200) := by omega
  clear h60
  obtain ⟨I, hI⟩ : ∃ i, (conS c).1 = i := ⟨_, rfl⟩
  have HI := Lib.hid hI
  obtain ⟨E, P, K, a, v, t, hE, hP, hK, hA, hV, hT, hcase⟩ := poly_cases c x y
  have HE := Lib.hid hE
  have HP := Lib.hid hP
  have HK := Lib.hid hK
  have HA := Lib.hid hA
  have HV := Lib.hid hV
  have HT := Lib.hid hT
  have HOK := Lib.hid (show E = 0 → (1 ≤ n ∧ n ≤ 200) ∧ StepsOf c ∧ ∀ p ∈ c, PlB p from fun h => by
    have h0 : (conS c).2 = 0 := by rw [hE]; exact h
    obtain ⟨h4, h5, h6⟩ := conS_ok h0
    rw [HL.out] at h4 h5
    exact ⟨⟨by omega, h5⟩, steps_ok h0, h6⟩)
  have HPO := Lib.hid (show P = 0 → PlOk x y from fun h => placeE_ok (by rw [hP]; exact h))
  have eII : (I != I) = false := by simp
  clear hI hE hP hK hA hV hT
  rcases hgo with h60 | ⟨h60, h200⟩
  all_goals
    go_enter Try.func7, Try.ntmps7
    go_wp2_with fail
    try rw [hW0]
    try rw [hsb]
    clear hW0 hsb
    refine (awake6_any _).mono ?_
    rintro e w1 ⟨rfl, n1⟩
    have N1 := N0.trans n1
    have b1 := b0.keep n1
    clear N0 b0 n1
    go_wp2_with fail
    refine (cCopyContour_any A n cap c _ (by omega) (HR.out.keep N1)).mono ?_
    rintro e w2 ⟨n2, A2, c2, rfl, hc2, r2⟩
    have N2 := N1.trans n2
    have b2 := b1.keep n2
    have HR2 := Lib.hid r2
    clear N1 b1 n2 r2 hc2
    go_wp2_with fail
    refine (cCheckContour_is HI.out HE.out A2 n c2 _ (by omega) HR2.out).mono ?_
    rintro e w3 ⟨rfl, n3⟩
    have N3 := N2.trans n3
    have b3 := b2.keep n3
    clear N2 b2 n3 HR2
    go_wp2_with fail
    refine (cCopyContour_any A n cap c _ (by omega) (HR.out.keep N3)).mono ?_
    rintro e w4 ⟨n4, A4, c4, rfl, hc4, r4⟩
    have N4 := N3.trans n4
    have b4 := b3.keep n4
    have HR4 := Lib.hid r4
    clear N3 b3 n4 r4 hc4
    go_wp2_with fail
    refine (cAreaOf_is HA.out HE.out A4 n c4 _ (by omega) HR4.out).mono ?_
    rintro e w5 ⟨rfl, n5⟩
    have N5 := N4.trans n5
    have b5 := b4.keep n5
    clear N4 b4 n5 HR4
    have c0 : w5.cell? ⟨sb, 0, none⟩ = some (.int .i64 x) := b5.cell 0
    have c1 : w5.cell? ⟨sb, 1, none⟩ = some (.int .i64 y) := b5.cell 1
    have l5 := b5.lt
    go_wp2
    refine wp_region_takes0 w5 (New.refl _) 1 8 #[true, false, false, false, false, false, false, false, false] (by kernel_rfl) (by kernel_rfl) (by kernel_rfl) (by kernel_rfl) (by kernel_rfl) (by kernel_rfl) ?_
    simp only [List.take_succ_cons, List.take_zero]
    (repeat (go_big_quiet_step ((fail))))
    refine wpQuiet_nil ?_
    intro W6 n6
    refine take_next 2 1 #[true, false, true, false, false, false, false, false, false] rfl (by kernel_rfl) (by kernel_rfl) (by kernel_rfl) (by kernel_rfl) (by decide) ?_
    simp only [List.take_succ_cons, List.take_zero, List.drop_succ_cons, List.drop_zero]
    (repeat (go_big_quiet_step ((fail))))
    refine wpQuiet_nil ?_
    refine one_next 1 (by kernel_rfl) (new_plus n6) (wpOpIn_list rfl ?_)
    gi_wp2_with fail
    refine ⟨trivial, callsIn_wide.2 ((cCopyContour_any A n cap c _ (by omega) (HR.out.keep (N5.trans n6))).mono ?_)⟩
    rintro e w7 ⟨n7, A7, c7, rfl, hc7, r7⟩
    have nn7 := n6.trans n7
    have HR7 := Lib.hid r7
    clear n6 n7 r7 hc7
    gi_wp2
    refine one_next 3 (by kernel_rfl) (new_plus nn7) (wpOpIn_list rfl ?_)
    gi_wp2_with fail
    refine ⟨trivial, callsIn_wide.2 ((cTurnsAround_is HV.out HK.out A7 n c7 _ (by omega) HR7.out).mono ?_)⟩
    rintro e w8 ⟨rfl, n8⟩
    have nn8 := nn7.trans n8
    clear n8 nn7 HR7
    gi_wp2
    refine take_next 4 5 #[true, true, true, true, true, true, true, true, true] rfl (by kernel_rfl) (by kernel_rfl) (by kernel_rfl) (by kernel_rfl) (by decide) ?_
    simp only [List.take_succ_cons, List.take_zero, List.drop_succ_cons, List.drop_zero]
    (repeat (go_big_quiet_step ((fail))))
    refine wpQuiet_nil ?_
    refine end_any (new_plus nn8) (by kernel_rfl) ?_
    have N8 := N5.trans nn8
    have b8 := b5.keep nn8
    clear N5 b5 c0 c1 l5 nn8
    go_wp2_with fail
    refine (refCon_is HI.out HE.out A n cap _ (by omega) (HR.out.keep N8)).mono ?_
    rintro e w9 ⟨rfl, n9⟩
    have N9 := N8.trans n9
    have b9 := b8.keep n9
    clear N8 b8 n9
    have c0 : w9.cell? ⟨sb, 0, none⟩ = some (.int .i64 x) := b9.cell 0
    have c1 : w9.cell? ⟨sb, 1, none⟩ = some (.int .i64 y) := b9.cell 1
    have l9 := b9.lt
    have eEE : (E != E) = false := by simp
    rcases hcase with ⟨h0, h1, rfl, rfl, rfl⟩ | ⟨rfl, h1, rfl, rfl, h2⟩ | ⟨rfl, rfl, rfl, h2, rfl⟩
    · have eKK : (K == K) = true := by simp
      clear h0
      go_wp2_with fail
      go_ret
      exact ⟨rfl, N9⟩
    · have eKK : (K == K) = true := by simp
      have eaa : (a != a) = false := by simp
      obtain ⟨hn2, _, hpl⟩ := HOK.out rfl
      have HPL := Lib.hid hpl
      have HA2 := Lib.hid h2.symm
      clear h2 hpl
      go_wp2_with fail
      refine (refArea_is HA2.out A n cap _ hn2 (HR.out.keep N9) HPL.out).mono ?_
      rintro e w10 ⟨rfl, n10⟩
      have N10 := N9.trans n10
      have b10 := b9.keep n10
      clear N9 b9 n10 c0 c1 l9
      have c0 : w10.cell? ⟨sb, 0, none⟩ = some (.int .i64 x) := b10.cell 0
      have c1 : w10.cell? ⟨sb, 1, none⟩ = some (.int .i64 y) := b10.cell 1
      have l10 := b10.lt
      go_wp2_with fail
      refine (refPlace_is HP.out _).mono ?_
      rintro e w11 ⟨rfl, n11⟩
      go_wp2_with fail
      go_ret
      exact ⟨rfl, N10.trans n11⟩
    · have eaa : (a != a) = false := by simp
      have evv : (v == v) = true := by simp
      obtain ⟨hn2, hst, hpl⟩ := HOK.out rfl
      have HPL := Lib.hid hpl
      have HST := Lib.hid hst
      have HPK := Lib.hid (HPO.out rfl)
      have HA2 := Lib.hid h2.symm
      clear h2 hpl hst
      go_wp2_with fail
      refine (refArea_is HA2.out A n cap _ hn2 (HR.out.keep N9) HPL.out).mono ?_
      rintro e w10 ⟨rfl, n10⟩
      have N10 := N9.trans n10
      have b10 := b9.keep n10
      clear N9 b9 n10 c0 c1 l9
      have c0 : w10.cell? ⟨sb, 0, none⟩ = some (.int .i64 x) := b10.cell 0
      have c1 : w10.cell? ⟨sb, 1, none⟩ = some (.int .i64 y) := b10.cell 1
      have l10 := b10.lt
      go_wp2_with fail
      refine (refPlace_is HP.out _).mono ?_
      rintro e w11 ⟨rfl, n11⟩
      have N11 := N10.trans n11
      have b11 := b10.keep n11
      clear N10 b10 n11 c0 c1 l10
      have c0 : w11.cell? ⟨sb, 0, none⟩ = some (.int .i64 x) := b11.cell 0
      have c1 : w11.cell? ⟨sb, 1, none⟩ = some (.int .i64 y) := b11.cell 1
      have l11 := b11.lt
      go_wp2_with fail
      refine (refTurns_is HT.out A n cap _ hn2 (HR.out.keep N11) HST.out HPL.out HPK.out).mono ?_
      rintro e w12 ⟨rfl, n12⟩
      go_wp2_with fail
      go_ret
      exact ⟨rfl, N11.trans n12⟩
end Go.Proofs.Ytaogolnoiffgiaa
