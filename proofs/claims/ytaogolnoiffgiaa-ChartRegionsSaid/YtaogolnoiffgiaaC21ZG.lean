/- Contracts: the document's stations and grid, copies of polygons.
   Contracts: chapter 6 is awake.
   The walk of ChartRegions. -/
import Derived.BigQuiet
import Derived.BigRegion
import Derived.Deep.AppendLies
import Derived.Deep.Draws
import Derived.Deep.Quiet
import Derived.Deep.QuietTactic
import Derived.DeepKeys4
import Derived.Laws.BitsAllLaws
import Derived.Laws.Rows
import Derived.Lib.Hide
import Derived.Lib.SliceRun
import Derived.LoopIn
import Derived.LoopNIn
import Derived.MapKept
import Derived.Maps.Keyed
import Derived.Maps.OwnIn
import Derived.Maps.OwnSet
import Derived.OrdersIn
import Derived.OwnWalkIn
import Derived.RangeFuncBound
import Derived.RangeFuncCalls
import Derived.RangeFuncLeaves
import Derived.RangeFuncNested
import Derived.Shelf.Abstract
import Derived.Shelf.GgSortFunc.InsertionK
import Derived.Shelf.RegionOpen
import Derived.Shelf.SlSortCmp.NoneTotal
import Derived.Shelf.SlSortCmp.QuietGrown
import Derived.Shelf.SlSortCmp.WholeK
import Derived.StillTail
import Derived.TacticsIn
import Derived.TacticsInMore
import Derived.Test.YtaogolnoiffgiaaProg
import Derived.WalkArith
import Derived.WalkKit
import Derived.WalkLawsBesides
import Derived.WalkSpells
import Derived.Test.YtaogolnoiffgiaaC21M
import Derived.Test.YtaogolnoiffgiaaC21W
import Derived.Test.YtaogolnoiffgiaaC21ZE
import Derived.Test.YtaogolnoiffgiaaC21ZF

namespace Go.Proofs.Ytaogolnoiffgiaa
open Go.RowKit Go.Sky Go.Sky.Ch

def stA : Sta := ⟨⟨#[97]⟩, 0, 0, 10, 10, 0⟩
def stB : Sta := ⟨⟨#[98]⟩, 3, 0, 40, 43, 5⟩
theorem cStations_any (w : World) : Calls Try.prog 77 #[] w fun e w' => New w w' ∧ ∃ b, e = .returned (.slice (some ⟨b, 0, none⟩) 2 2) ∧ Rd w' 6 encSt (some ⟨b, 0, none⟩) 2 [stA, stB] := by
  go_enter Try.func77, Try.ntmps77
  go_wp2
  go_ret
  exact ⟨(New.refl w).alloc _, _, rfl, rd_bx (Bx.mk _ _ _) encSt_len _ rfl 2 rfl⟩
theorem cGrid_any (w : World) : Calls Try.prog 79 #[] w fun e w' => New w w' ∧ ∃ A, e = .returned (.slice A 3 3) ∧ RowsL w' 1 encI A 3 gridD := by
  go_enter Try.func79, Try.ntmps79
  go_wp2
  go_ret
  refine ⟨(((((New.refl w).alloc _).alloc _).alloc _).alloc _), _, rfl, [⟨some ⟨w.heap.size, 0, none⟩, 3, 3⟩, ⟨some ⟨w.heap.size + 1, 0, none⟩, 3, 3⟩, ⟨some ⟨w.heap.size + 1 + 1, 0, none⟩, 3, 3⟩], ?_, ?_⟩
  · exact rd_bx (Bx.mk_at _ _ _ (w.heap.size + 1 + 1 + 1) (by simp)) encSl_len _ rfl 3 rfl
  · refine ⟨rfl, fun i r xs hr hx => ?_⟩
    rcases (show i = 0 ∨ i = 1 ∨ i = 2 ∨ 3 ≤ i by omega) with rfl | rfl | rfl | h
    · injection hr with hr
      injection hx with hx
      subst hr hx
      exact ⟨Nat.le_refl _, rd_bx ((((Bx.mk w _ _).alloc _).alloc _).alloc _) encI_len _ rfl 3 rfl⟩
    · injection hr with hr
      injection hx with hx
      subst hr hx
      exact ⟨Nat.le_refl _, rd_bx (((Bx.mk_at _ _ _ (w.heap.size + 1) (by simp)).alloc _).alloc _) encI_len _ rfl 3 rfl⟩
    · injection hr with hr
      injection hx with hx
      subst hr hx
      exact ⟨Nat.le_refl _, rd_bx ((Bx.mk_at _ _ _ (w.heap.size + 1 + 1) (by simp)).alloc _) encI_len _ rfl 3 rfl⟩
    · rw [List.getElem?_eq_none (by simpa using h)] at hr
      cases hr
set_option maxHeartbeats 2000000 in
theorem cCopyContour_any (A : Option Addr) (n cap : Nat) (c : List Pl) (w : World) (hn : n ≤ 1000000) (hr : Rd w 2 encPl A n c) :
    Calls Try.prog 47 #[.slice A n cap] w fun e w' => New w w' ∧ ∃ B k, e = .returned (.slice B n k) ∧ n ≤ k ∧ Rd w' 2 encPl B n c := by
  obtain ⟨i0, hi, hz0, hz1, hz2⟩ := info_parts infoPl
  have HR := Lib.hid (hr.keep ((New.refl w).alloc (.cells #[] 73)))
  have HO := Lib.hid (Sky.Own.empty w w.heap.size 73 2 encPl_len w.heap.size rfl (Nat.le_refl _))
  have N1 := (New.refl w).alloc (.cells #[] 73)
  clear hr
  go_enter Try.func47, Try.ntmps47
  go_wp2_with (at_builtin; refine wpList_pour _ rfl _ _ 82 rfl 73 i0 _ 2 16 Try.underlying82 hi hz0 hz1 hz2 rfl (by omega) w.heap.size encPl _ 0 0 [] rfl HO.out A n cap c rfl HR.out encPl_one (by simp only [maxLen]; omega) (by omega) N1.size ?_; intro A7 cap7 w7 hown7 hgr7 hN7)
  go_ret
  rw [Nat.zero_add, List.nil_append] at hown7
  exact ⟨hN7 w N1 (Nat.le_refl _), A7, cap7, rfl, hown7.le.1, hown7.rd⟩
end Go.Proofs.Ytaogolnoiffgiaa

namespace Go.Proofs.Ytaogolnoiffgiaa
open Go.RowKit Go.Sky Go.Sky.Ch

theorem awake_val : valueS [stA, stB] 1 0 = ⟨(40, 3), (41, 3), 0⟩ := by
  have h : (valueS [stA, stB] 1 0).a = (40, 3) ∧ (valueS [stA, stB] 1 0).b = (41, 3) ∧ (valueS [stA, stB] 1 0).e = 0 := by decide
  rcases hv : valueS [stA, stB] 1 0 with ⟨a, b, e⟩
  rw [hv] at h
  obtain ⟨rfl, rfl, rfl⟩ := h
  rfl
theorem awake_worst : worstS [stA, stB] = (⟨#[97]⟩, 0) := by decide
theorem cValueAt_is {l : List Sta} {x y : Int} {v : SpanV} (h : valueS l x y = v) (A : Option Addr) (n cap : Nat) (w : World) (hn : n ≤ 1000000) (hr : Rd w 6 encSt A n l) (hs : ∀ s ∈ l, s.n.size ≤ 1000) :
    Calls Try.prog 76 #[.slice A n cap, .agg #[.int .i64 x, .int .i64 y]] w fun e w' => e = .returned (.tuple #[.agg #[.int .i64 v.a.1, .int .i64 v.a.2, .int .i64 v.b.1, .int .i64 v.b.2], .int .i64 v.e]) ∧ New w w' := h ▸ cValueAt_any A n cap l x y w hn hr hs
theorem cWorstOf_is {l : List Sta} {v : ByteArray × Int} (h : worstS l = v) (A : Option Addr) (n cap : Nat) (w : World) (hn : n ≤ 1000000) (hcap : n ≤ cap) (hr : Rd w 6 encSt A n l) (hs : ∀ s ∈ l, s.n.size ≤ 1000) :
    Calls Try.prog 78 #[.slice A n cap] w fun e w' => e = .returned (.tuple #[.string v.1, .int .i64 v.2]) ∧ New w w' := h ▸ cWorstOf_any A n cap l w hn hcap hr hs
theorem stSizes : ∀ s ∈ [stA, stB], s.n.size ≤ 1000 := by decide
/-- The contours of the document's grid. -/
theorem cContoursD (A : Option Addr) (cap : Nat) (w : World) (hr : RowsL w 1 encI A 3 gridD) :
    Calls Try.prog 25 #[.slice A 3 cap, .int .i64 3] w fun e w' => New w w' ∧ ∃ C c, e = .returned (.tuple #[.slice C 2 c, .int .i64 0]) ∧ 2 ≤ c ∧ RowsL w' 2 encPl C 2 [contD0, contD1] := by
  refine (cContoursOf_any A 3 cap gridD 3 w (by omega) (by decide) hr).mono ?_
  rintro e w' ⟨hn, h⟩
  refine ⟨hn, ?_⟩
  rcases h with ⟨v, hv, hv0, _⟩ | ⟨_, ys, C, m, c, ⟨hs1, hs2⟩, he, hmc, hrr⟩
  · rw [gridD_open] at hv
    exact absurd hv.symm hv0
  · obtain rfl := sidesD_is hs1 hs2
    rw [contD] at hrr
    have := hrr.len
    obtain rfl : 2 = m := this
    exact ⟨C, c, he, hmc, hrr⟩
theorem cLitD (w : World) : Calls Try.prog 32 #[.agg #[.int .i64 100, .int .i64 0, .int .i64 10], .agg #[.int .i64 50, .int .i64 80, .int .i64 0], .int .i64 1000] w fun e w' => e = .returned (.tuple #[.int .i64 2, .int .i64 0]) ∧ New w w' := by
  refine (cLitAt_any ⟨100, 0, 10⟩ ⟨50, 80, 0⟩ 1000 w).mono ?_
  rintro e w' ⟨hn, h⟩
  rcases h with ⟨v, hv, hv0, _⟩ | ⟨_, he⟩
  · rw [awake_lit.1] at hv
    exact absurd hv.symm hv0
  · rw [awake_lit.2] at he
    exact ⟨he, hn⟩
theorem cAreaD (A : Option Addr) (cap : Nat) (w : World) (hr : Rd w 2 encPl A 4 contD1) : Calls Try.prog 48 #[.slice A 4 cap] w fun e w' => e = .returned (.tuple #[.int .i64 (-1), .int .i64 0]) ∧ New w w' := by
  refine (cAreaOf_any A 4 cap contD1 w (by omega) hr).mono ?_
  rintro e w' ⟨hn, h⟩
  rcases h with ⟨v, hv, hv0, _⟩ | ⟨_, he⟩
  · rw [contD1_ok] at hv
    exact absurd hv.symm hv0
  · rw [contD1_area] at he
    exact ⟨he, hn⟩

set_option maxRecDepth 100000 in
set_option maxHeartbeats 8000000 in
theorem awake6_any (w : World) : Calls Try.prog 20 #[] w fun e w' => e = .returned (.bool true) ∧ New w w' := by
  go_enter Try.func20, Try.ntmps20
  go_wp2_with fail
  refine (cStations_any _).mono ?_
  rintro e w1 ⟨n1, b1, rfl, r1⟩
  go_wp2_with fail
  refine (cValueAt_is awake_val _ 2 2 _ (by omega) r1 stSizes).mono ?_
  rintro e w2 ⟨rfl, n2⟩
  have b2 := Bx.mk w2 137 #[.int .i64 40, .int .i64 3, .int .i64 41, .int .i64 3]
  have N2 := (n1.trans n2).alloc (.cells #[.int .i64 40, .int .i64 3, .int .i64 41, .int .i64 3] 137)
  obtain ⟨W2, hW2⟩ : ∃ W2, w2.alloc (.cells #[.int .i64 40, .int .i64 3, .int .i64 41, .int .i64 3] 137) = W2 := ⟨_, rfl⟩
  rw [hW2] at b2 N2
  obtain ⟨sb, hsb⟩ : ∃ b, w2.heap.size = b := ⟨_, rfl⟩
  rw [hsb] at b2
  clear r1 n1 n2
  go_wp2_with fail
  try rw [hW2]
  try rw [hsb]
  clear hW2 hsb
  refine (cStations_any _).mono ?_
  rintro e w3 ⟨n3, b3, rfl, r3⟩
  go_wp2_with fail
  refine (cWorstOf_is awake_worst _ 2 2 _ (by omega) (by omega) r3 stSizes).mono ?_
  rintro e w4 ⟨rfl, n4⟩
  have N4 := N2.trans (n3.trans n4)
  have B4 := b2.keep (n3.trans n4)
  clear r3 n3 n4 b2 N2
  go_wp2_with fail
  refine (cGrid_any _).mono ?_
  rintro e w5 ⟨n5, GA, rfl, g5⟩
  go_wp2_with fail
  refine (cContoursD GA 3 _ g5).mono ?_
  rintro e w6 ⟨n6, C, c, rfl, hc, r6⟩
  have N6 := N4.trans (n5.trans n6)
  have B6 := B4.keep (n5.trans n6)
  clear g5 n5 n6 B4 N4
  go_wp2_with fail
  refine (cLitD _).mono ?_
  rintro e w7 ⟨rfl, n7⟩
  have N7 := N6.trans n7
  have B7 := B6.keep n7
  have r7 := r6.keep n7
  clear n7 B6 N6 r6
  obtain ⟨b, o, r, xs, rfl, hb, hx, hcl, hrow⟩ := r7.at_ (show 1 < 2 by omega)
  injection hx with hx
  subst hx
  obtain ⟨RA, rn, rc⟩ := r
  have hrl : 4 = rn := hrow.len
  subst hrl
  have hrd := hrow.2
  dsimp only at hcl hrd
  clear hrow
  go_wp2_with fail
  refine (cCopyContour_any RA 4 rc contD1 _ (by omega) hrd).mono ?_
  rintro e w8 ⟨n8, D, k, rfl, hk, hd⟩
  go_wp2_with fail
  refine (cAreaD D k _ hd).mono ?_
  rintro e w9 ⟨rfl, n9⟩
  have N9 := N7.trans (n8.trans n9)
  have B9 := B7.keep (n8.trans n9)
  obtain ⟨b', o', r0, xs0, hA, hb0, hx0, hcl0, hrow0⟩ := (r7.keep (n8.trans n9)).at_ (show 0 < 2 by omega)
  injection hA with hA
  injection hA with ea eb
  subst ea eb
  injection hx0 with hx0
  subst hx0
  obtain ⟨R0, m0, c0⟩ := r0
  have hrl0 : 12 = m0 := hrow0.len
  subst hrl0
  dsimp only at hcl0
  simp only [Nat.add_zero] at hcl0
  clear hrow0 n8 n9 B7 N7
  have k0 := B9.cell 0
  have k1 := B9.cell 1
  have k2 := B9.cell 2
  have k3 := B9.cell 3
  have lb := B9.lt
  simp only [List.getElem?_toArray, List.getElem?_cons_zero, List.getElem?_cons_succ] at k0 k1 k2 k3
  go_wp2_with fail
  go_ret
  exact ⟨rfl, N9⟩
end Go.Proofs.Ytaogolnoiffgiaa

namespace Go.Sky.Ch
open Go.RowKit Go.Sky
theorem fold_each (r : Int → Int → Bool) (N : Nat) : ∀ (l : List Sd) (st : List Sd × List (List (Int × Int))), (∀ c ∈ st.2, c.length ≤ N) → ∀ c ∈ (l.foldl (refStep r N) st).2, c.length ≤ N
  | [], st, h => h
  | s :: t, st, h => by
    rw [List.foldl_cons]
    refine fold_each r N t _ ?_
    unfold refStep
    split
    · intro c hc
      rcases List.mem_append.1 hc with hc | hc
      · exact h c hc
      · rw [List.mem_singleton] at hc
        subst hc
        rw [List.length_map]
        exact orb_len _ _ _ _
    · exact h
theorem refC_bd (r : Int → Int → Bool) (N w h : Nat) : (refC r N w h).2.length ≤ h * (w * 4) ∧ ∀ c ∈ (refC r N w h).2, c.length ≤ N := by
  constructor
  · have := (fold_len r N (candAll w h) ([], [])).2
    rw [call_len] at this
    unfold refC
    simpa using this
  · exact fold_each r N _ _ (by simp)
end Go.Sky.Ch
namespace Go.Proofs.Ytaogolnoiffgiaa
open Go.RowKit Go.Sky Go.Sky.Ch

theorem cRegionOf_bad {rows : List (List Int)} {level v : Int} (h : openE rows level = v) (h0 : v ≠ 0) (A : Option Addr) (n cap : Nat) (w : World) (hn : n ≤ 1000000) (hrl : ∀ r ∈ rows, r.length ≤ 1000000) (hr : RowsL w 1 encI A n rows) :
    Calls Try.prog 24 #[.slice A n cap, .int .i64 level] w fun e w' => e = .returned (.tuple #[.slice none 0 0, .int .i64 v]) ∧ New w w' := by
  refine (cRegionOf_any A n cap rows level w hn hrl hr).mono ?_
  rintro e w' ⟨hn, ⟨v', h1, h2, he⟩ | ⟨h1, _⟩⟩
  · rw [h] at h1; subst h1; exact ⟨he, hn⟩
  · rw [h] at h1; exact absurd h1 h0
theorem cRegionOf_ok {rows : List (List Int)} {level : Int} (h : openE rows level = 0) (A : Option Addr) (n cap : Nat) (w : World) (hn : n ≤ 1000000) (hrl : ∀ r ∈ rows, r.length ≤ 1000000) (hr : RowsL w 1 encI A n rows) :
    Calls Try.prog 24 #[.slice A n cap, .int .i64 level] w fun e w' => New w w' ∧ ∃ C c, e = .returned (.tuple #[.slice C n c, .int .i64 0]) ∧ n ≤ c ∧ RowsL w' 1 encI C n (regS rows level) := by
  refine (cRegionOf_any A n cap rows level w hn hrl hr).mono ?_
  rintro e w' ⟨hn, ⟨v', h1, h2, he⟩ | ⟨_, h2⟩⟩
  · rw [h] at h1; exact absurd h1.symm h2
  · exact ⟨hn, h2⟩
theorem cContoursOf_bad {rows : List (List Int)} {level v : Int} (h : openE rows level = v) (h0 : v ≠ 0) (A : Option Addr) (n cap : Nat) (w : World) (hn : n ≤ 1000000) (hrl : ∀ r ∈ rows, r.length ≤ 1000000) (hr : RowsL w 1 encI A n rows) :
    Calls Try.prog 25 #[.slice A n cap, .int .i64 level] w fun e w' => e = .returned (.tuple #[.slice none 0 0, .int .i64 v]) ∧ New w w' := by
  refine (cContoursOf_any A n cap rows level w hn hrl hr).mono ?_
  rintro e w' ⟨hn, ⟨v', h1, h2, he⟩ | ⟨h1, _⟩⟩
  · rw [h] at h1; subst h1; exact ⟨he, hn⟩
  · rw [h] at h1; exact absurd h1 h0
theorem cContoursOf_ok {rows : List (List Int)} {level : Int} {N m : Nat} {L : List (List Pl)} (h : openE rows level = 0) (hN : (allSides (regS rows level) (regS rows level).length).length = N) (hL : (refC (isR (regS rows level)) N (len0 rows + 1) (rows.length + 1)).2 = L) (hm : L.length = m)
    (A : Option Addr) (n cap : Nat) (w : World) (hn : n ≤ 1000000) (hrl : ∀ r ∈ rows, r.length ≤ 1000000) (hr : RowsL w 1 encI A n rows) :
    Calls Try.prog 25 #[.slice A n cap, .int .i64 level] w fun e w' => New w w' ∧ ∃ C c, e = .returned (.tuple #[.slice C m c, .int .i64 0]) ∧ m ≤ c ∧ RowsL w' 2 encPl C m L := by
  have hlen := hr.len
  refine (cContoursOf_any A n cap rows level w hn hrl hr).mono ?_
  rintro e w' ⟨hn, ⟨v', h1, h2, he⟩ | ⟨_, ys, C, m', c, ⟨hs1, hs2⟩, he, hmc, hrr⟩⟩
  · rw [h] at h1; exact absurd h1.symm h2
  · have hl : (regS rows level).length = n := by unfold regS; rw [List.length_map]; exact hlen
    rw [← hl] at hs1
    have hc := cont_is hs1 hs2 (N := N) (by rw [hs1.length_eq, hN]; exact Nat.le_refl _)
    rw [len0_reg, hl, ← hlen] at hc
    rw [← hc, hL] at hrr
    have := hrr.len
    obtain rfl : m = m' := by omega
    exact ⟨hn, C, c, he, hmc, hrr⟩
theorem refContours_is {rows : List (List Int)} {level : Int} {N m : Nat} {L : List (List Pl)} (hgr : GrOk rows) (hN : (allSides (regS rows level) (regS rows level).length).length = N) (hL : (refC (isR (regS rows level)) N (len0 rows + 1) (rows.length + 1)).2 = L) (hm : L.length = m)
    (A : Option Addr) (n cap : Nat) (w : World) (hr : RowsL w 1 encI A n rows) :
    Calls Try.prog 31 #[.slice A n cap, .int .i64 level] w fun e w' => New w w' ∧ ∃ C c, e = .returned (.slice C m c) ∧ m ≤ c ∧ RowsL w' 2 encPl C m L := by
  refine (refContours_any A n cap rows level w N hgr hN hr).mono ?_
  rintro e w' ⟨hn, C, c, m', he, hmc, hrr⟩
  rw [hL] at hrr
  have := hrr.len
  obtain rfl : m = m' := by omega
  exact ⟨hn, C, c, he, hmc, hrr⟩
theorem open_cases (rows : List (List Int)) (level : Int) : ∃ G T E : Int, (gridS rows).2 = G ∧ levelE level = T ∧ openE rows level = E ∧ ((G ≠ 0 ∧ (G == 0) = false ∧ (G != 0) = true ∧ E = G) ∨ (G = 0 ∧ T ≠ 0 ∧ (T != 0) = true ∧ E = T) ∨ (G = 0 ∧ T = 0 ∧ E = 0)) := by
  refine ⟨_, _, _, rfl, rfl, rfl, ?_⟩
  by_cases h1 : (gridS rows).2 = 0
  · by_cases h2 : levelE level = 0
    · exact .inr (.inr ⟨h1, h2, by unfold openE; rw [h1]; exact (show firstE [0, levelE level] = 0 by rw [h2]; rfl)⟩)
    · exact .inr (.inl ⟨h1, h2, by simpa using h2, by unfold openE; rw [h1]; exact firstE_ne (l := []) h2⟩)
  · exact .inl ⟨h1, by simpa using h1, by simpa using h1, firstE_ne h1⟩

set_option maxRecDepth 100000 in
set_option maxHeartbeats 8000000 in
theorem regions_any (A : Option Addr) (n cap : Nat) (rows : List (List Int)) (level : Int) (w : World) (hr : RowsL w 1 encI A n rows) :
    Calls Try.prog 4 #[.slice A n cap, .int .i64 level] w fun e w' => e = .returned (.bool true) ∧ New w w' := by
  have HL := Lib.hid hr.len
  have HR := Lib.hid hr
  clear hr
  obtain ⟨fw, hfw⟩ : ∃ f, fewCl rows = f := ⟨_, rfl⟩
  have HFW := Lib.hid hfw
  cases fw
  · clear hfw
    go_enter Try.func4, Try.ntmps4
    go_wp2_with fail
    refine (awake6_any _).mono ?_
    rintro e w1 ⟨rfl, n1⟩
    go_wp2_with fail
    refine (fewCells_is HFW.out A n cap _ (HR.out.keep n1)).mono ?_
    rintro e w' ⟨rfl, rfl⟩
    go_wp2_with fail
    go_ret
    exact ⟨rfl, n1⟩
  obtain ⟨hn10, hr10⟩ := few_cl hfw
  rw [HL.out] at hn10
  have HRL := Lib.hid (show ∀ r ∈ rows, r.length ≤ 1000000 from fun r hr => by have := hr10 r hr; omega)
  obtain ⟨I, hI⟩ : ∃ i, (gridS rows).1 = i := ⟨_, rfl⟩
  have HI := Lib.hid hI
  obtain ⟨G, T, E, hG, hT, hE, hcase⟩ := open_cases rows level
  have HG := Lib.hid hG
  have HGV := Lib.hid (show gridS rows = (I, G) by rw [← hI, ← hG])
  have HT := Lib.hid hT
  have HE := Lib.hid hE
  have eII : (I != I) = false := by simp
  have eGG : (G != G) = false := by simp
  have HR10 := Lib.hid hr10
  clear hfw hI hG hT hE hr10
  by_cases h0 : E = 0
  rotate_left
  · have hc2 : (G ≠ 0 ∧ (G == 0) = false ∧ (G != 0) = true ∧ E = G) ∨ (G = 0 ∧ T ≠ 0 ∧ (T != 0) = true ∧ E = T) := by
      rcases hcase with h | h | ⟨_, _, h⟩
      · exact .inl h
      · exact .inr h
      · exact absurd h h0
    have HNE := Lib.hid h0
    have eEE : (E == E) = true := by simp
    clear hcase h0
    go_enter Try.func4, Try.ntmps4
    go_wp2_with fail
    refine (awake6_any _).mono ?_
    rintro e w1 ⟨rfl, n1⟩
    go_wp2_with fail
    refine (fewCells_is HFW.out A n cap _ (HR.out.keep n1)).mono ?_
    rintro e w' ⟨rfl, rfl⟩
    go_wp2_with fail
    refine (bCopyLists_any A n cap rows _ (by omega) HRL.out (HR.out.keep n1)).mono ?_
    rintro e w2 ⟨n2, A2, c2, rfl, _, r2⟩
    have N2 := n1.trans n2
    have R2 := Lib.hid r2
    clear n1 n2 r2
    go_wp2_with fail
    refine (cCheckGrid_is HGV.out A2 n c2 _ (by omega) HRL.out R2.out).mono ?_
    rintro e w3 ⟨rfl, n3⟩
    have N3 := N2.trans n3
    clear N2 n3 R2
    go_wp2_with fail
    refine (bCopyLists_any A n cap rows _ (by omega) HRL.out (HR.out.keep N3)).mono ?_
    rintro e w4 ⟨n4, A4, c4, rfl, _, r4⟩
    have N4 := N3.trans n4
    have R4 := Lib.hid r4
    clear N3 n4 r4
    go_wp2_with fail
    refine (cRegionOf_bad HE.out HNE.out A4 n c4 _ (by omega) HRL.out R4.out).mono ?_
    rintro e w5 ⟨rfl, n5⟩
    have N5 := N4.trans n5
    clear N4 n5 R4
    go_wp2_with fail
    refine (bCopyLists_any A n cap rows _ (by omega) HRL.out (HR.out.keep N5)).mono ?_
    rintro e w6 ⟨n6, A6, c6, rfl, _, r6⟩
    have N6 := N5.trans n6
    have R6 := Lib.hid r6
    clear N5 n6 r6
    go_wp2_with fail
    refine (cContoursOf_bad HE.out HNE.out A6 n c6 _ (by omega) HRL.out R6.out).mono ?_
    rintro e w7 ⟨rfl, n7⟩
    have N7 := N6.trans n7
    clear N6 n7 R6
    go_wp2_with fail
    refine (refGrid_is HI.out HG.out A n cap _ (by omega) HRL.out (HR.out.keep N7)).mono ?_
    rintro e w8 ⟨rfl, n8⟩
    have N8 := N7.trans n8
    clear N7 n8
    rcases hc2 with ⟨h1, h2, h3, rfl⟩ | ⟨rfl, h2, h3, rfl⟩
    · clear h1
      go_wp2_with fail
      go_ret
      exact ⟨rfl, N8⟩
    · clear h2
      go_wp2_with fail
      refine (refLevel_is HT.out _).mono ?_
      rintro e w' ⟨rfl, rfl⟩
      go_wp2_with fail
      go_ret
      exact ⟨rfl, N8⟩
  · subst h0
    obtain ⟨hG0, hT0⟩ : G = 0 ∧ T = 0 := by
      rcases hcase with ⟨h1, _, _, h2⟩ | ⟨_, h1, _, h2⟩ | ⟨h1, h2, _⟩
      · exact absurd h2.symm h1
      · exact absurd h2.symm h1
      · exact ⟨h1, h2⟩
    subst hG0 hT0
    have hgr := grid_ok HG.out
    obtain ⟨N, hN⟩ : ∃ N, (allSides (regS rows level) (regS rows level).length).length = N := ⟨_, rfl⟩
    obtain ⟨L, hL⟩ : ∃ L, (refC (isR (regS rows level)) N (len0 rows + 1) (rows.length + 1)).2 = L := ⟨_, rfl⟩
    obtain ⟨m, hm⟩ : ∃ m, L.length = m := ⟨_, rfl⟩
    have hbd := refC_bd (isR (regS rows level)) N (len0 rows + 1) (rows.length + 1)
    rw [hL, hm] at hbd
    have hm4 : m ≤ 1000000 := by
      have h1 := hgr.h
      have h2 := hgr.w
      have := Nat.mul_le_mul (show rows.length + 1 ≤ 9 by omega) (show (len0 rows + 1) * 4 ≤ 36 by omega)
      omega
    have hN256 : N ≤ 256 := by
      have hrc := hgr.rect level
      have h1 := allSides_len (regS rows level) (regS rows level).length
      have h2 := Nat.mul_le_mul hrc.h.2 (Nat.mul_le_mul (Nat.le_refl 4) hrc.w.2)
      omega
    have HLB := Lib.hid (show ∀ c ∈ L, c.length ≤ 1000000 from fun c hc => by have := hbd.2 c hc; omega)
    have HRG := Lib.hid (show ∀ r ∈ regS rows level, r.length ≤ 1000000 from fun r hr => by
      unfold regS at hr
      obtain ⟨a, ha, rfl⟩ := List.mem_map.1 hr
      unfold regR
      rw [List.length_map]
      exact HRL.out a ha)
    have HR1 := Lib.hid (show ∀ r ∈ rows, r.length ≤ 1000 from fun r hr => by have := HR10.out r hr; omega)
    have HGR := Lib.hid hgr
    have HN := Lib.hid hN
    have HLL := Lib.hid hL
    have HMM := Lib.hid hm
    clear hcase hgr hN hL hm hbd hN256
    go_enter Try.func4, Try.ntmps4
    go_wp2_with fail
    refine (awake6_any _).mono ?_
    rintro e w1 ⟨rfl, n1⟩
    go_wp2_with fail
    refine (fewCells_is HFW.out A n cap _ (HR.out.keep n1)).mono ?_
    rintro e w' ⟨rfl, rfl⟩
    go_wp2_with fail
    refine (bCopyLists_any A n cap rows _ (by omega) HRL.out (HR.out.keep n1)).mono ?_
    rintro e w2 ⟨n2, A2, c2, rfl, _, r2⟩
    have N2 := n1.trans n2
    have R2 := Lib.hid r2
    clear n1 n2 r2
    go_wp2_with fail
    refine (cCheckGrid_is HGV.out A2 n c2 _ (by omega) HRL.out R2.out).mono ?_
    rintro e w3 ⟨rfl, n3⟩
    have N3 := N2.trans n3
    clear N2 n3 R2
    go_wp2_with fail
    refine (bCopyLists_any A n cap rows _ (by omega) HRL.out (HR.out.keep N3)).mono ?_
    rintro e w4 ⟨n4, A4, c4, rfl, _, r4⟩
    have N4 := N3.trans n4
    have R4 := Lib.hid r4
    clear N3 n4 r4
    go_wp2_with fail
    refine (cRegionOf_ok HE.out A4 n c4 _ (by omega) HRL.out R4.out).mono ?_
    rintro e w5 ⟨n5, RA, rc, rfl, _, r5⟩
    have N5 := N4.trans n5
    have R5 := Lib.hid r5
    clear N4 n5 R4 r5
    go_wp2_with fail
    refine (bCopyLists_any A n cap rows _ (by omega) HRL.out (HR.out.keep N5)).mono ?_
    rintro e w6 ⟨n6, A6, c6, rfl, _, r6⟩
    have N6 := N5.trans n6
    have R6 := Lib.hid r6
    have R5b := Lib.hid (R5.out.keep n6)
    clear N5 n6 r6 R5
    go_wp2_with fail
    refine (cContoursOf_ok HE.out HN.out HLL.out HMM.out A6 n c6 _ (by omega) HRL.out R6.out).mono ?_
    rintro e w7 ⟨n7, CA, cc, rfl, _, r7⟩
    have N7 := N6.trans n7
    have R7 := Lib.hid r7
    have R5c := Lib.hid (R5b.out.keep n7)
    clear N6 n7 R6 r7 R5b
    go_wp2_with fail
    refine (refGrid_is HI.out HG.out A n cap _ (by omega) HRL.out (HR.out.keep N7)).mono ?_
    rintro e w8 ⟨rfl, n8⟩
    have N8 := N7.trans n8
    have R7b := Lib.hid (R7.out.keep n8)
    have R5d := Lib.hid (R5c.out.keep n8)
    clear N7 n8 R7 R5c
    go_wp2_with fail
    refine (refLevel_is HT.out _).mono ?_
    rintro e w' ⟨rfl, rfl⟩
    go_wp2_with fail
    refine (refRegion_any A n cap rows level _ (by omega) HR1.out (HR.out.keep N8)).mono ?_
    rintro e w9 ⟨n9, RB, rd, rfl, _, r9⟩
    have N9 := N8.trans n9
    have R9 := Lib.hid r9
    have R7c := Lib.hid (R7b.out.keep n9)
    have R5e := Lib.hid (R5d.out.keep n9)
    clear N8 n9 R7b R5d r9
    go_wp2_with fail
    refine (bLists_same RA RB n rc rd _ _ (by omega) HRG.out R5e.out R9.out).mono ?_
    rintro e w10 ⟨rfl, n10⟩
    have N10 := N9.trans n10
    have R7d := Lib.hid (R7c.out.keep n10)
    clear N9 n10 R7c R5e R9
    go_wp2_with fail
    refine (refContours_is HGR.out HN.out HLL.out HMM.out A n cap _ (HR.out.keep N10)).mono ?_
    rintro e w11 ⟨n11, CB, cd, rfl, _, r11⟩
    have N11 := N10.trans n11
    have R11 := Lib.hid r11
    have R7e := Lib.hid (R7d.out.keep n11)
    clear N10 n11 R7d r11
    go_wp2_with fail
    refine (refSameContours_same CA CB m cc cd _ _ hm4 HLB.out R7e.out R11.out).mono ?_
    rintro e w12 ⟨rfl, n12⟩
    go_wp2_with fail
    go_ret
    exact ⟨rfl, N11.trans n12⟩
end Go.Proofs.Ytaogolnoiffgiaa
