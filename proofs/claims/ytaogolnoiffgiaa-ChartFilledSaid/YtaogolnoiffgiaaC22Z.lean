/- Contracts: sides sorted.
   Contracts: the sides of a region, in order.
   Contracts: the sides of a region, in order. -/
import Derived.BigQuiet
import Derived.BigRegion
import Derived.Deep.AppendLies
import Derived.Deep.Draws
import Derived.Deep.Quiet
import Derived.Deep.QuietTactic
import Derived.DeepKeys4
import Derived.Laws.BitsAllLaws
import Derived.Laws.Rows
import Derived.Lib.Hide
import Derived.Lib.SliceRun
import Derived.MapKept
import Derived.Maps.Keyed
import Derived.OrdersIn
import Derived.OwnWalkIn
import Derived.RangeFuncCalls
import Derived.Shelf.GgSortFunc.InsertionK
import Derived.Shelf.RegionOpen
import Derived.Shelf.SlSortCmp.NoneTotal
import Derived.Shelf.SlSortCmp.QuietGrown
import Derived.Shelf.SlSortCmp.WholeK
import Derived.StillTail
import Derived.TacticsIn
import Derived.Test.YtaogolnoiffgiaaProg
import Derived.WalkArith
import Derived.WalkKit
import Derived.WalkLawsBesides
import Derived.WalkSpells
import Derived.Test.YtaogolnoiffgiaaC22Q
import Derived.Test.YtaogolnoiffgiaaC22W

namespace Go.Proofs.Ytaogolnoiffgiaa
open Go.RowKit Go.Sky Go.Sky.Ch Go.Sort Go.Shelf

def sortSd_ren : Go.Shelf.Ren := ⟨fun | 6 => 134 | 15 => 156 | 14 => 155 | 28 => 173 | 29 => 174 | 20 => 165 | 21 => 166 | 22 => 167 | 23 => 168 | 24 => 169 | 25 => 170 | 26 => 171 | 27 => 172 | 46 => 181 | 47 => 182 | 48 => 183 | 49 => 184 | 50 => 185 | 57 => 189 | n => n, fun | 22 => 148 | 24 => 152 | 25 => 208 | 3 => 3 | 39 => 234 | 0 => 0 | 53 => 251 | 55 => 253 | 4 => 4 | 46 => 245 | 45 => 244 | 50 => 175 | 5 => 5 | 9 => 9 | 66 => 259 | 70 => 263 | 76 => 265 | 77 => 50 | n => n, fun | n => n⟩
theorem sortSd : Go.Proofs.SlLaysF0.n6 Try.prog sortSd_ren := {
  mixed := by kernel_rfl
  f6 := ⟨Try.f134.name, by decide, Try.func134.trans (congrArg some (by kernel_rfl))⟩
  f14 := ⟨Try.f155.name, by decide, Try.func155.trans (congrArg some (by kernel_rfl))⟩
  f15 := Try.func156.trans (congrArg some (by kernel_rfl))
  f20 := ⟨Try.f165.name, by decide, Try.func165.trans (congrArg some (by kernel_rfl))⟩
  f21 := ⟨Try.f166.name, by decide, Try.func166.trans (congrArg some (by kernel_rfl))⟩
  f22 := ⟨Try.f167.name, by decide, Try.func167.trans (congrArg some (by kernel_rfl))⟩
  f23 := ⟨Try.f168.name, by decide, Try.func168.trans (congrArg some (by kernel_rfl))⟩
  f24 := ⟨Try.f169.name, by decide, Try.func169.trans (congrArg some (by kernel_rfl))⟩
  f25 := ⟨Try.f170.name, by decide, Try.func170.trans (congrArg some (by kernel_rfl))⟩
  f26 := ⟨Try.f171.name, by decide, Try.func171.trans (congrArg some (by kernel_rfl))⟩
  f27 := ⟨Try.f172.name, by decide, Try.func172.trans (congrArg some (by kernel_rfl))⟩
  f28 := Try.func173.trans (congrArg some (by kernel_rfl))
  f29 := Try.func174.trans (congrArg some (by kernel_rfl))
  f46 := ⟨Try.f181.name, by decide, Try.func181.trans (congrArg some (by kernel_rfl))⟩
  f47 := Try.func182.trans (congrArg some (by kernel_rfl))
  f48 := Try.func183.trans (congrArg some (by kernel_rfl))
  f49 := ⟨Try.f184.name, by decide, Try.func184.trans (congrArg some (by kernel_rfl))⟩
  f50 := ⟨Try.f185.name, by decide, Try.func185.trans (congrArg some (by kernel_rfl))⟩
  f57 := ⟨Try.f189.name, by decide, Try.func189.trans (congrArg some (by kernel_rfl))⟩
  t0 := Try.underlying0
  a0 := Try.isAgg0
  z0 := Try.sizeOf0
  v0 := Try.zeroValue0
  t3 := Try.underlying3
  a3 := Try.isAgg3
  z3 := Try.sizeOf3
  v3 := Try.zeroValue3
  t4 := Try.underlying4
  a4 := Try.isAgg4
  z4 := Try.sizeOf4
  v4 := Try.zeroValue4
  t5 := Try.underlying5
  a5 := Try.isAgg5
  z5 := Try.sizeOf5
  v5 := Try.zeroValue5
  t9 := Try.underlying9
  a9 := Try.isAgg9
  z9 := Try.sizeOf9
  v9 := Try.zeroValue9
  t22 := Try.underlying148
  a22 := Try.isAgg148
  z22 := Try.sizeOf148
  v22 := Try.zeroValue148
  t25 := Try.underlying208
  a25 := Try.isAgg208
  z25 := Try.sizeOf208
  v25 := Try.zeroValue208
  t39 := Try.underlying234
  a39 := Try.isAgg234
  z39 := Try.sizeOf234
  v39 := Try.zeroValue234
  t45 := Try.underlying244
  a45 := Try.isAgg244
  z45 := Try.sizeOf244
  v45 := Try.zeroValue244
  t46 := Try.underlying245
  a46 := Try.isAgg245
  z46 := Try.sizeOf245
  v46 := Try.zeroValue245
  t50 := Try.underlying175
  a50 := Try.isAgg175
  z50 := Try.sizeOf175
  v50 := Try.zeroValue175
  t53 := Try.underlying251
  a53 := Try.isAgg251
  z53 := Try.sizeOf251
  v53 := Try.zeroValue251
  t55 := Try.underlying253
  a55 := Try.isAgg253
  z55 := Try.sizeOf253
  v55 := Try.zeroValue253
  t66 := Try.underlying259
  a66 := Try.isAgg259
  z66 := Try.sizeOf259
  v66 := Try.zeroValue259
  t70 := Try.underlying263
  a70 := Try.isAgg263
  z70 := Try.sizeOf263
  v70 := Try.zeroValue263
  t76 := Try.underlying265
  a76 := Try.isAgg265
  z76 := Try.sizeOf265
  v76 := Try.zeroValue265
  t77 := Try.underlying50
  a77 := Try.isAgg50
  z77 := Try.sizeOf50
  v77 := Try.zeroValue50 }
instance : Inhabited Sd := ⟨⟨0, 0, 0⟩⟩

theorem ltOf_Sd (x y : Sd) : ltOf cmpSd x y = true ↔ LtSd x y := by
  unfold ltOf
  rw [decide_eq_true_iff]
  exact cmpSd_neg x y
theorem ltOf_Sdf (x y : Sd) : ltOf cmpSd x y = false ↔ ¬ LtSd x y := by
  rw [← ltOf_Sd]; simp
theorem swoSd : SWO (ltOf cmpSd) where
  irrefl x := (ltOf_Sdf x x).2 (by unfold LtSd; omega)
  trans x y z h k := (ltOf_Sd x z).2 (by have h := (ltOf_Sd x y).1 h; have k := (ltOf_Sd y z).1 k; unfold LtSd at *; omega)
  ntrans x y z h k := (ltOf_Sdf x z).2 (by have h := (ltOf_Sdf x y).1 h; have k := (ltOf_Sdf y z).1 k; unfold LtSd at *; omega)


theorem sdLays (blk off size : Nat) (w : World) : CmpLays Try.prog 135 #[] encSd 3 cmpSd blk off size w :=
  fun _ _ _ _ x y => sdClos x y _
theorem sortSd_any (blk off cap : Nat) (d : Array Sd) (w : World) (hH : HoldsK encSd 3 w blk off d) (hblk : blk < w.heap.size) (hsz : d.size < 4611686018427387904) :
    Calls Try.prog 134 #[.slice (some ⟨blk, off, none⟩) d.size cap, .func (.func 135) #[] #[]] w fun e w' =>
      e = .returned (.tuple #[]) ∧ ∃ d' n os, PermIn 0 d.size d d' ∧ SortedIn (ltOf cmpSd) 0 d.size d' ∧ w' = sortWorldK encSd 3 w blk off n d' os := by
  have eg : ∀ args w, (callFunc 135 args).run Try.prog w = .ok (.enter 135 args) w := enters_of Try.func135 (by kernel_rfl) rfl
  exact AnyQ.slices_SortFunc sortSd 3 Try.isAgg152 Try.sizeOf152 encSd (fun _ => rfl) encSd_one cmpSd swoSd 135 #[] blk off cap d w eg (sdLays blk off d.size w) hH hblk hsz
end Go.Proofs.Ytaogolnoiffgiaa

namespace Go.Proofs.Ytaogolnoiffgiaa
open Go.RowKit Go.Sky Go.Sky.Ch Go.Sort

set_option maxRecDepth 100000 in
set_option maxHeartbeats 4000000 in
theorem cIs_any (rows : List (List Int)) (x y : Int) (Bb : Nat) (A : Option Addr) (n cap : Nat) (w : World) (hrc : Rect rows) (hr : RowsL w 1 encI A n rows) (hb : Bx w Bb 41 #[.slice A n cap]) (hx : -1000 ≤ x ∧ x ≤ 1000) (hy : -1000 ≤ y ∧ y ≤ 1000) :
    Calls Try.prog 132 #[.int .i64 x, .int .i64 y, .pointer (some ⟨Bb, 0, none⟩)] w fun e w' => e = .returned (.bool (isR rows x y)) ∧ w = w' := by
  have HL := Lib.hid hr.len
  have HRC := Lib.hid hrc
  have c0 : w.cell? ⟨Bb, 0, none⟩ = some (.slice A n cap) := hb.cell 0
  have lb := hb.lt
  have hn1 : 1 ≤ n ∧ n ≤ 8 := by rw [← HL.out]; exact hrc.h
  obtain ⟨b, o, r, xs, hA, hbb, hx0, hc, hrow⟩ := hr.at_ (show 0 < n by omega)
  subst hA
  have HL0 := Lib.hid (show len0 rows = r.n by
    rw [← hrow.len]
    cases rows with
    | nil => simp at hx0
    | cons a t => injection hx0 with hx0; subst hx0; rfl)
  have HV := Lib.hid (show isR rows x y = ((inR y 0 ((n : Int) - 1) && inR x 0 ((r.n : Int) - 1)) && (atR rows x.toNat y.toNat == 1)) by unfold isR; rw [HL.out, HL0.out])
  have hrw1 : 1 ≤ r.n ∧ r.n ≤ 8 := by rw [← HL0.out]; exact hrc.w
  have HR := Lib.hid hr
  clear hr hrc hb hx0 hrow
  obtain ⟨RA, rn, rc⟩ := r
  dsimp only at hc HV hrw1 HL0
  simp only [Nat.add_zero] at hc
  obtain ⟨q1, h1⟩ : ∃ v, inR y 0 ((n : Int) - 1) = v := ⟨_, rfl⟩
  obtain ⟨q2, h2⟩ : ∃ v, inR x 0 ((rn : Int) - 1) = v := ⟨_, rfl⟩
  rw [h1, h2] at HV
  have H1 := Lib.hid h1
  have H2 := Lib.hid h2
  have i00 : (0 : Int) < (n : Int) := by omega
  cases q1
  · clear h1 h2
    go_enter Try.func132, Try.ntmps132
    go_wp2_with (go_at_call 95; refine (cWithin_is H1.out _).mono ?_; rintro e w' ⟨rfl, rfl⟩)
    go_ret
    exact ⟨by rw [HV.out]; rfl, rfl⟩
  · cases q2
    · clear h1 h2
      go_enter Try.func132, Try.ntmps132
      go_wp2_with (first | (go_at_call 95; with_reducible refine Calls.mono (cWithin_is H1.out _) ?_; rintro e w' ⟨rfl, rfl⟩) | (go_at_call 95; with_reducible refine Calls.mono (cWithin_is H2.out _) ?_; rintro e w' ⟨rfl, rfl⟩))
      go_ret
      exact ⟨by rw [HV.out]; rfl, rfl⟩
    · have h1' := inR_iff.1 h1
      have h2' := inR_iff.1 h2
      obtain ⟨yn, rfl⟩ : ∃ k : Nat, y = (k : Int) := ⟨y.toNat, by omega⟩
      obtain ⟨xn, rfl⟩ : ∃ k : Nat, x = (k : Int) := ⟨x.toNat, by omega⟩
      obtain ⟨b', o', r', xs', hA, hbb', hx', hc', hrow'⟩ := HR.out.at_ (show yn < n by omega)
      injection hA with hA
      injection hA with ea eb ec
      subst ea eb
      have hrl := HRC.out.row yn xs' hx'
      rw [hrow'.len, HL0.out] at hrl
      obtain ⟨b2, o2, v, hA2, hb2, hv, hcv⟩ := hrow'.2.at_ (show xn < r'.n by omega)
      have g0 := hcv 0 _ rfl
      simp only [Nat.add_zero, Nat.mul_one] at g0
      have HAT := Lib.hid (show atR rows ((xn : Nat) : Int).toNat ((yn : Nat) : Int).toNat = v by
        unfold atR
        rw [show ((yn : Nat) : Int).toNat = yn by omega, show ((xn : Nat) : Int).toNat = xn by omega, hx']
        show xs'.getD xn 0 = v
        rw [List.getD_eq_getElem?_getD, hv]; rfl)
      obtain ⟨RA', rn', rc'⟩ := r'
      dsimp only at hA2 hc' hrl
      subst hA2 hrl
      have j0 : (0 : Int) ≤ (yn : Int) := by omega
      have j1 : (yn : Int) < (n : Int) := by omega
      have j2 : (0 : Int) ≤ (xn : Int) := by omega
      have j3 : (xn : Int) < (rn' : Int) := by omega
      rw [HAT.out] at HV
      clear h1 h2 h1' h2' hx' hrow' hv hcv
      go_enter Try.func132, Try.ntmps132
      go_wp2_with (first | (go_at_call 95; with_reducible refine Calls.mono (cWithin_is H1.out _) ?_; rintro e w' ⟨rfl, rfl⟩) | (go_at_call 95; with_reducible refine Calls.mono (cWithin_is H2.out _) ?_; rintro e w' ⟨rfl, rfl⟩))
      go_ret
      exact ⟨by rw [HV.out]; rfl, rfl⟩
theorem cIs_is {rows : List (List Int)} {x y : Int} {v : Bool} (h : isR rows x y = v) (Bb : Nat) (A : Option Addr) (n cap : Nat) (w : World) (hrc : Rect rows) (hr : RowsL w 1 encI A n rows) (hb : Bx w Bb 41 #[.slice A n cap]) (hx : -1000 ≤ x ∧ x ≤ 1000) (hy : -1000 ≤ y ∧ y ≤ 1000) :
    Calls Try.prog 132 #[.int .i64 x, .int .i64 y, .pointer (some ⟨Bb, 0, none⟩)] w fun e w' => e = .returned (.bool v) ∧ w = w' := h ▸ cIs_any rows x y Bb A n cap w hrc hr hb hx hy
end Go.Proofs.Ytaogolnoiffgiaa

namespace Go.Proofs.Ytaogolnoiffgiaa
open Go.RowKit Go.Sky Go.Sky.Ch Go.Sort

/-- A row sorted: what was there, in order. -/
def SdSorted (xs ys : List Sd) : Prop := ys.Perm xs ∧ ys.Pairwise fun a b => ¬ LtSd b a
theorem sd_array {d d' : Array Sd} (hp : PermIn 0 d.size d d') (hs : SortedIn (ltOf cmpSd) 0 d.size d') : SdSorted d.toList d'.toList := by
  obtain ⟨h1, _, h2⟩ := hp
  rw [show d'.extract 0 d.size = d' by rw [← h1]; simp, show d.extract 0 d.size = d by simp] at h2
  refine ⟨h2, List.pairwise_iff_getElem.2 fun i j hi hj hij => ?_⟩
  have hi' : i < d'.size := by simpa using hi
  have hj' : j < d'.size := by simpa using hj
  have := hs i j (Nat.zero_le _) hij (by rw [← h1]; exact hj')
  rw [getElem!_pos d' j hj', getElem!_pos d' i hi'] at this
  exact (ltOf_Sdf _ _).1 this
theorem sortOwnSd (xs : List Sd) (A : Option Addr) (n cap base : Nat) (w : World) (hn : n ≤ 1000) (ho : Sky.Own w base 152 3 encSd A n cap xs) :
    Calls Try.prog 134 #[.slice A n cap, .func (.func 135) #[] #[]] w fun e w' =>
      e = .returned (.tuple #[]) ∧ ∃ ys, Sky.Own w' base 152 3 encSd A n cap ys ∧ SdSorted xs ys ∧ w.grownBy w' (A.map (·.block)) := by
  rcases Nat.eq_zero_or_pos n with h0 | h0
  · subst h0
    have hx : xs = [] := List.eq_nil_of_length_eq_zero ho.len
    subst hx
    refine (AnyF.slices_SortFunc_none sortSd A cap _ w).mono ?_
    rintro e w' ⟨rfl, rfl⟩
    exact ⟨rfl, [], ho, ⟨List.Perm.refl _, List.Pairwise.nil⟩, World.grownBy.refl _ _⟩
  · obtain ⟨g, rfl, hbg, hgw, hnc, hcm⟩ : ∃ g, A = some ⟨g, 0, none⟩ ∧ base ≤ g ∧ g < w.heap.size ∧ n ≤ cap ∧ cap ≤ maxLen := by
      rcases ho.form with ⟨_, h, _⟩ | h
      · omega
      · exact h
    have hs : xs.toArray.size = n := by simpa using ho.len
    have h := sortSd_any g 0 cap xs.toArray w (own_holds ho) hgw (by omega)
    rw [hs] at h
    refine h.mono ?_
    rintro e w' ⟨rfl, d', m, os, hp, hsd, rfl⟩
    have hz : d'.size = n := by rw [← hs]; rw [← hs] at hp; exact hp.1
    obtain ⟨h1, h2⟩ := own_sorted ho d' hz m os
    exact ⟨rfl, d'.toList, h1, by have := sd_array (d := xs.toArray) (d' := d') (by rw [hs]; exact hp) (by rw [hs]; exact hsd); simpa using this, h2⟩
theorem cMoved_is {x y d u v : Int} (h1 : x + dxS d = u) (h2 : y + dyS d = v) (w : World) (hx : -100000 ≤ x ∧ x ≤ 100000) (hy : -100000 ≤ y ∧ y ≤ 100000) (hd : 0 ≤ d ∧ d ≤ 3) :
    Calls Try.prog 133 #[.agg #[.int .i64 x, .int .i64 y], .int .i64 d] w fun e w' => e = .returned (.agg #[.int .i64 u, .int .i64 v]) ∧ New w w' := by subst h1 h2; exact cMoved_any x y d w hx hy hd

set_option maxRecDepth 100000 in
set_option maxHeartbeats 8000000 in
theorem cSides_any (A : Option Addr) (n cap : Nat) (rows : List (List Int)) (w : World) (hrc : Rect rows) (hr : RowsL w 1 encI A n rows) :
    Calls Try.prog 87 #[.slice A n cap] w fun e w' => New w w' ∧ ∃ C m c ys, e = .returned (.slice C m c) ∧ SdSorted (allSides rows n) ys ∧ Sky.Own w' w.heap.size 152 3 encSd C m c ys := by
  obtain ⟨i0, hi, hz0, hz1, hz2⟩ := info_parts infoSd
  have HL := Lib.hid hr.len
  have HRC := Lib.hid hrc
  have hn8 : 1 ≤ n ∧ n ≤ 8 := by rw [← HL.out]; exact hrc.h
  have hw8 : 1 ≤ len0 rows ∧ len0 rows ≤ 8 := hrc.w
  have N0 := (New.refl w).alloc (.cells #[.slice A n cap] 41)
  have b0 := Bx.mk w 41 #[.slice A n cap]
  have HR := Lib.hid (hr.keep N0)
  obtain ⟨Wb, hWb⟩ : ∃ Wb, w.alloc (.cells #[.slice A n cap] 41) = Wb := ⟨_, rfl⟩
  rw [hWb] at N0 b0 HR
  obtain ⟨Bb, hBb⟩ : ∃ b, w.heap.size = b := ⟨_, rfl⟩
  rw [hBb] at b0
  have c0 : Wb.cell? ⟨Bb, 0, none⟩ = some (.slice A n cap) := b0.cell 0
  have lb := b0.lt
  have HB := Lib.hid b0
  obtain ⟨lw, hlw⟩ : ∃ v, len0 rows = v := ⟨_, rfl⟩
  have HLW := Lib.hid hlw
  rw [hlw] at hw8
  clear hr hrc b0 hlw
  go_enter Try.func87, Try.ntmps87
  go_wp2_with fail
  try rw [hWb]
  try rw [hBb]
  go_loopw [4, 14] (fun out i wr => ∃ (j m c : Nat) (C : Option Addr), j ≤ n ∧ i = .int .i64 (j : Int) ∧ out = .slice C m c ∧ Hid (Sky.Own wr Wb.heap.size 152 3 encSd C m c (allSides rows j)) ∧ New Wb wr) (fun _ i _ => n - (intOf i).toNat)
  case atStart => exact ⟨0, 0, 0, none, by omega, rfl, rfl, Sky.Own.nil _ _ _ _ encSd_len, New.refl _⟩
  case round =>
    obtain ⟨j, m, c, C, hj, rfl, rfl, HO, hN⟩ := hrel
    by_cases hlt : j < n
    · obtain ⟨b, o, r, xs, hA, hb, hx, hc, hrow⟩ := (HR.out.keep hN).at_ hlt
      subst hA
      have hrl := HRC.out.row j xs hx
      rw [hrow.len, HLW.out] at hrl
      obtain ⟨RA, rn, rc⟩ := r
      dsimp only at hc hrl
      subst hrl
      have i0' : (0 : Int) ≤ (j : Int) := by omega
      have i1' : (j : Int) < (n : Int) := by omega
      clear hx hrow
      go_wp2_with fail
      go_loopw [4, 21] (fun out i wx => ∃ (x m c : Nat) (C : Option Addr), x ≤ rn ∧ i = .int .i64 (x : Int) ∧ out = .slice C m c ∧ Hid (Sky.Own wx Wb.heap.size 152 3 encSd C m c (allSides rows j ++ rowSides rows (j : Int) x)) ∧ New Wb wx) (fun _ i _ => rn - (intOf i).toNat)
      case atStart => exact ⟨0, m, c, C, by omega, rfl, rfl, by unfold Hid; rw [show rowSides rows (j : Int) 0 = [] from rfl, List.append_nil]; exact HO.out, hN⟩
      case round =>
        clear hc hb hN HO
        obtain ⟨x, m, c, C, hx, rfl, rfl, HO, hN⟩ := hrel
        by_cases hxr : x < rn
        · have j0 : (0 : Int) ≤ (x : Int) := by omega
          have j1 : (x : Int) < (rn : Int) := by omega
          have HRR := Lib.hid (HR.out.keep hN)
          have HBX := Lib.hid (HB.out.keep hN)
          have hm4 : m ≤ 900 := by
            have h1 := HO.out.len
            have h2 := allSides_len rows j
            have h3 := rowSides_len rows (j : Int) x
            rw [HLW.out] at h2
            rw [List.length_append] at h1
            have h4 : j * (4 * rn) ≤ 8 * (4 * 8) := Nat.mul_le_mul (by omega) (by omega)
            omega
          have HST := Lib.hid (show rowSides rows (j : Int) (x + 1) = rowSides rows (j : Int) x ++ if isR rows x j = true then cellSides rows x j 4 else [] from rfl)
          obtain ⟨ir, hir⟩ : ∃ v, isR rows (x : Int) (j : Int) = v := ⟨_, rfl⟩
          have HIR := Lib.hid hir
          rw [hir] at HST
          clear hir
          cases ir
          · go_wp2_with fail
            refine (cIs_is HIR.out Bb _ n cap _ HRC.out HRR.out HBX.out (by omega) (by omega)).mono ?_
            rintro e w' ⟨rfl, rfl⟩
            go_wp2_with fail
            go_roundw
            case rel => exact ⟨x + 1, m, c, C, by omega, by go_num, rfl, by unfold Hid; rw [HST.out]; simpa using HO.out, hN⟩
            case measure => simp [intOf]; omega
          · go_wp2_with fail
            refine (cIs_is HIR.out Bb _ n cap _ HRC.out HRR.out HBX.out (by omega) (by omega)).mono ?_
            rintro e w' ⟨rfl, rfl⟩
            have bA := Bx.mk wr 73 #[.int .i64 (x : Int), .int .i64 (j : Int)]
            have N1 := hN.alloc (.cells #[.int .i64 (x : Int), .int .i64 (j : Int)] 73)
            have HO1 := Lib.hid (HO.out.alloc (.cells #[.int .i64 (x : Int), .int .i64 (j : Int)] 73))
            have hAb : Wb.heap.size ≤ wr.heap.size := hN.size
            go_wp2_with fail
            obtain ⟨Ab, hAb2⟩ : ∃ b, wr.heap.size = b := ⟨_, rfl⟩
            rw [hAb2] at bA hAb
            try rw [hAb2]
            clear hAb2
            go_loopw [4, 49] (fun out i wz => ∃ (d m c : Nat) (C : Option Addr), d ≤ 4 ∧ i = .int .i64 (d : Int) ∧ out = .slice C m c ∧ Hid (Sky.Own wz Wb.heap.size 152 3 encSd C m c (allSides rows j ++ rowSides rows (j : Int) x ++ cellSides rows x j d)) ∧ Hid (Bx wz Ab 73 #[.int .i64 (cornX x d), .int .i64 (cornY j d)]) ∧ New Wb wz) (fun _ i _ => 4 - (intOf i).toNat)
            case atStart => exact ⟨0, m, c, C, by omega, rfl, rfl, by unfold Hid; rw [show cellSides rows (x : Int) (j : Int) 0 = [] from rfl, List.append_nil]; exact HO1.out, bA, N1⟩
            case round =>
              clear HO1 bA N1 HO hN HRR HBX hm4
              obtain ⟨d, m, c, C, hd, rfl, rfl, HO, HA, hN⟩ := hrel
              have hm4 : m ≤ 904 := by
                have h1 := HO.out.len
                have h2 := allSides_len rows j
                have h3 := rowSides_len rows (j : Int) x
                have h5 := cellSides_len rows (x : Int) (j : Int) d
                rw [HLW.out] at h2
                rw [List.length_append, List.length_append] at h1
                have h4 : j * (4 * rn) ≤ 8 * (4 * 8) := Nat.mul_le_mul (by omega) (by omega)
                omega
              have hne : (73 : Nat) ≠ 152 := by decide
              rcases (show d = 4 ∨ d = 0 ∨ d = 1 ∨ d = 2 ∨ d = 3 by omega) with rfl | rfl | rfl | rfl | rfl
              · go_wp2_with fail
                go_roundw
                case rel => exact ⟨x + 1, m, c, C, by omega, by go_num, rfl, by unfold Hid; rw [HST.out, ← List.append_assoc]; exact HO.out, hN⟩
                case measure => simp [intOf]; omega
              · have bA : Bx wr Ab 73 #[.int .i64 (x : Int), .int .i64 (j : Int)] := HA.out
                have N1 := hN.alloc (.cells #[.int .i64 (x : Int), .int .i64 ((j : Int) - 1)] 73)
                have b1 := bA.alloc (.cells #[.int .i64 (x : Int), .int .i64 ((j : Int) - 1)] 73)
                have o1 := HO.out.alloc (.cells #[.int .i64 (x : Int), .int .i64 ((j : Int) - 1)] 73)
                obtain ⟨W2, hW2⟩ : ∃ W2, wr.alloc (.cells #[.int .i64 (x : Int), .int .i64 ((j : Int) - 1)] 73) = W2 := ⟨_, rfl⟩
                rw [hW2] at N1 b1 o1
                have q0 : W2.cell? ⟨wr.heap.size, 0, none⟩ = some (.int .i64 (x : Int)) := by rw [← hW2]; exact (Bx.mk wr 73 #[.int .i64 (x : Int), .int .i64 ((j : Int) - 1)]).cell 0
                have q1 : W2.cell? ⟨wr.heap.size, 1, none⟩ = some (.int .i64 ((j : Int) - 1)) := by rw [← hW2]; exact (Bx.mk wr 73 #[.int .i64 (x : Int), .int .i64 ((j : Int) - 1)]).cell 1
                have HO1 := Lib.hid o1
                have HRR := Lib.hid (HR.out.keep N1)
                have HBX := Lib.hid (HB.out.keep N1)
                have lA := bA.lt
                have lA2 := b1.lt
                have kw0 : wr.cell? ⟨Ab, 0, none⟩ = some (.int .i64 (x : Int)) := bA.cell 0
                have kw1 : wr.cell? ⟨Ab, 1, none⟩ = some (.int .i64 (j : Int)) := bA.cell 1
                have k0 : W2.cell? ⟨Ab, 0, none⟩ = some (.int .i64 (x : Int)) := b1.cell 0
                have k1 : W2.cell? ⟨Ab, 1, none⟩ = some (.int .i64 (j : Int)) := b1.cell 1
                have HCS := Lib.hid (show cellSides rows (x : Int) (j : Int) (0 + 1) = cellSides rows (x : Int) (j : Int) 0 ++ if isR rows (x : Int) ((j : Int) - 1) = true then [] else [⟨(x : Int), (j : Int), 0⟩] from rfl)
                obtain ⟨ib, hib⟩ : ∃ v, isR rows (x : Int) ((j : Int) - 1) = v := ⟨_, rfl⟩
                have HIB := Lib.hid hib
                rw [hib] at HCS
                clear hib HA hN HO
                have HB1 := Lib.hid b1
                have HAP := Lib.hid (bx_apart b1 o1 hne)
                clear b1 o1 bA
                have hix : ∀ W, (Instr.index 205 (.agg #[.int .i64 (x : Int), .int .i64 ((j : Int) - 1), .int .i64 ((x : Int) + 1), .int .i64 (j : Int), .int .i64 (x : Int), .int .i64 ((j : Int) + 1), .int .i64 ((x : Int) - 1), .int .i64 (j : Int)]) (.int .i64 0)).run Try.prog W = .ok (.agg #[.int .i64 (x : Int), .int .i64 ((j : Int) - 1)]) W := fun _ => by kernel_rfl
                cases ib
                · go_wp2_with fail
                  try rw [hW2]
                  refine (cIs_is HIB.out Bb _ n cap _ HRC.out HRR.out HBX.out (by omega) (by omega)).mono ?_
                  rintro e w' ⟨rfl, rfl⟩
                  go_wp2_with ((at_builtin; (refine wpList_pour _ rfl _ _ 148 rfl 152 i0 _ 3 24 Try.underlying148 hi hz0 hz1 hz2 rfl (by omega) Wb.heap.size encSd _ _ _ _ rfl (HO1.out.alloc _) _ 1 1 [(⟨(x : Int), (j : Int), 0⟩ : Sd)] rfl (by exact rd_bx (Bx.mk _ _ #[.int .i64 (x : Int), .int .i64 (j : Int), .int .i64 0]) encSd_len [(⟨(x : Int), (j : Int), 0⟩ : Sd)] rfl 1 rfl) encSd_one (by simp [maxLen]; omega) (by omega) (N1.alloc _).size ?_; intro A3 cap3 w3 hown3 hgr3 hN3; have n3 := hN3 Wb (N1.alloc _) (Nat.le_refl _); have b3 := (HB1.out.alloc (.cells #[.int .i64 (x : Int), .int .i64 (j : Int), .int .i64 0] 152)).grown hgr3 HAP.out; have HO3 := Lib.hid hown3; have HB3 := Lib.hid b3; have m0 := b3.cell 0; have m1 := b3.cell 1; have lb3 := b3.lt; simp only [List.getElem?_toArray, List.getElem?_cons_zero, List.getElem?_cons_succ] at m0 m1; have HAP3 := Lib.hid (bx_apart b3 hown3 hne); clear hown3 hgr3 hN3 b3)))
                  refine (cMoved_is (x := (x : Int)) (y := (j : Int)) (d := 0) (u := ((x : Int) + 1)) (v := (j : Int)) (by rw [show dxS 0 = 1 from by decide]; try omega) (by rw [show dyS 0 = 0 from by decide]; try omega) _ (by omega) (by omega) (by omega)).mono ?_
                  rintro e w4 ⟨rfl, n4⟩
                  have b4 := HB3.out.keep n4
                  have o4 := HO3.out.keep n4
                  have N4 := n3.trans n4
                  have p0 := b4.cell 0
                  have p1 := b4.cell 1
                  have f0 := b4.free 0
                  have f1 := b4.free 1
                  have lb4 := b4.lt
                  simp only [List.getElem?_toArray, List.getElem?_cons_zero, List.getElem?_cons_succ] at p0 p1
                  have HB5 := Lib.hid ((b4.set 0 (.int .i64 ((x : Int) + 1))).set 1 (.int .i64 (j : Int)))
                  have HO5 := Lib.hid ((o4.setOther (p := ⟨Ab, 0, none⟩) HAP3.out.symm (.int .i64 ((x : Int) + 1))).setOther (p := ⟨Ab, 1, none⟩) HAP3.out.symm (.int .i64 (j : Int)))
                  have HN5 := Lib.hid ((N4.setCell (p := ⟨Ab, 0, none⟩) hAb (.int .i64 ((x : Int) + 1))).setCell (p := ⟨Ab, 1, none⟩) hAb (.int .i64 (j : Int)))
                  clear b4 o4 N4 n4
                  go_wp2_with fail
                  go_roundw
                  case rel => exact ⟨0 + 1, _, _, _, by omega, rfl, rfl, by unfold Hid; rw [HCS.out, ← List.append_assoc]; exact HO5.out, HB5.out, HN5.out⟩
                  case measure => simp [intOf]
                · go_wp2_with fail
                  try rw [hW2]
                  refine (cIs_is HIB.out Bb _ n cap _ HRC.out HRR.out HBX.out (by omega) (by omega)).mono ?_
                  rintro e w' ⟨rfl, rfl⟩
                  go_wp2_with fail
                  refine (cMoved_is (x := (x : Int)) (y := (j : Int)) (d := 0) (u := ((x : Int) + 1)) (v := (j : Int)) (by rw [show dxS 0 = 1 from by decide]; try omega) (by rw [show dyS 0 = 0 from by decide]; try omega) _ (by omega) (by omega) (by omega)).mono ?_
                  rintro e w4 ⟨rfl, n4⟩
                  have b4 := HB1.out.keep n4
                  have o4 := HO1.out.keep n4
                  have N4 := N1.trans n4
                  have p0 := b4.cell 0
                  have p1 := b4.cell 1
                  have f0 := b4.free 0
                  have f1 := b4.free 1
                  have lb4 := b4.lt
                  simp only [List.getElem?_toArray, List.getElem?_cons_zero, List.getElem?_cons_succ] at p0 p1
                  have HB5 := Lib.hid ((b4.set 0 (.int .i64 ((x : Int) + 1))).set 1 (.int .i64 (j : Int)))
                  have HO5 := Lib.hid ((o4.setOther (p := ⟨Ab, 0, none⟩) HAP.out.symm (.int .i64 ((x : Int) + 1))).setOther (p := ⟨Ab, 1, none⟩) HAP.out.symm (.int .i64 (j : Int)))
                  have HN5 := Lib.hid ((N4.setCell (p := ⟨Ab, 0, none⟩) hAb (.int .i64 ((x : Int) + 1))).setCell (p := ⟨Ab, 1, none⟩) hAb (.int .i64 (j : Int)))
                  clear b4 o4 N4 n4
                  go_wp2_with fail
                  go_roundw
                  case rel => exact ⟨0 + 1, _, _, _, by omega, rfl, rfl, by unfold Hid; rw [HCS.out]; simpa using HO5.out, HB5.out, HN5.out⟩
                  case measure => simp [intOf]
              · have bA : Bx wr Ab 73 #[.int .i64 ((x : Int) + 1), .int .i64 (j : Int)] := HA.out
                have N1 := hN.alloc (.cells #[.int .i64 ((x : Int) + 1), .int .i64 (j : Int)] 73)
                have b1 := bA.alloc (.cells #[.int .i64 ((x : Int) + 1), .int .i64 (j : Int)] 73)
                have o1 := HO.out.alloc (.cells #[.int .i64 ((x : Int) + 1), .int .i64 (j : Int)] 73)
                obtain ⟨W2, hW2⟩ : ∃ W2, wr.alloc (.cells #[.int .i64 ((x : Int) + 1), .int .i64 (j : Int)] 73) = W2 := ⟨_, rfl⟩
                rw [hW2] at N1 b1 o1
                have q0 : W2.cell? ⟨wr.heap.size, 0, none⟩ = some (.int .i64 ((x : Int) + 1)) := by rw [← hW2]; exact (Bx.mk wr 73 #[.int .i64 ((x : Int) + 1), .int .i64 (j : Int)]).cell 0
                have q1 : W2.cell? ⟨wr.heap.size, 1, none⟩ = some (.int .i64 (j : Int)) := by rw [← hW2]; exact (Bx.mk wr 73 #[.int .i64 ((x : Int) + 1), .int .i64 (j : Int)]).cell 1
                have HO1 := Lib.hid o1
                have HRR := Lib.hid (HR.out.keep N1)
                have HBX := Lib.hid (HB.out.keep N1)
                have lA := bA.lt
                have lA2 := b1.lt
                have kw0 : wr.cell? ⟨Ab, 0, none⟩ = some (.int .i64 ((x : Int) + 1)) := bA.cell 0
                have kw1 : wr.cell? ⟨Ab, 1, none⟩ = some (.int .i64 (j : Int)) := bA.cell 1
                have k0 : W2.cell? ⟨Ab, 0, none⟩ = some (.int .i64 ((x : Int) + 1)) := b1.cell 0
                have k1 : W2.cell? ⟨Ab, 1, none⟩ = some (.int .i64 (j : Int)) := b1.cell 1
                have HCS := Lib.hid (show cellSides rows (x : Int) (j : Int) (1 + 1) = cellSides rows (x : Int) (j : Int) 1 ++ if isR rows ((x : Int) + 1) (j : Int) = true then [] else [⟨((x : Int) + 1), (j : Int), 1⟩] from rfl)
                obtain ⟨ib, hib⟩ : ∃ v, isR rows ((x : Int) + 1) (j : Int) = v := ⟨_, rfl⟩
                have HIB := Lib.hid hib
                rw [hib] at HCS
                clear hib HA hN HO
                have HB1 := Lib.hid b1
                have HAP := Lib.hid (bx_apart b1 o1 hne)
                clear b1 o1 bA
                have hix : ∀ W, (Instr.index 205 (.agg #[.int .i64 (x : Int), .int .i64 ((j : Int) - 1), .int .i64 ((x : Int) + 1), .int .i64 (j : Int), .int .i64 (x : Int), .int .i64 ((j : Int) + 1), .int .i64 ((x : Int) - 1), .int .i64 (j : Int)]) (.int .i64 1)).run Try.prog W = .ok (.agg #[.int .i64 ((x : Int) + 1), .int .i64 (j : Int)]) W := fun _ => by kernel_rfl
                cases ib
                · go_wp2_with fail
                  try rw [hW2]
                  refine (cIs_is HIB.out Bb _ n cap _ HRC.out HRR.out HBX.out (by omega) (by omega)).mono ?_
                  rintro e w' ⟨rfl, rfl⟩
                  go_wp2_with ((at_builtin; (refine wpList_pour _ rfl _ _ 148 rfl 152 i0 _ 3 24 Try.underlying148 hi hz0 hz1 hz2 rfl (by omega) Wb.heap.size encSd _ _ _ _ rfl (HO1.out.alloc _) _ 1 1 [(⟨((x : Int) + 1), (j : Int), 1⟩ : Sd)] rfl (by exact rd_bx (Bx.mk _ _ #[.int .i64 ((x : Int) + 1), .int .i64 (j : Int), .int .i64 1]) encSd_len [(⟨((x : Int) + 1), (j : Int), 1⟩ : Sd)] rfl 1 rfl) encSd_one (by simp [maxLen]; omega) (by omega) (N1.alloc _).size ?_; intro A3 cap3 w3 hown3 hgr3 hN3; have n3 := hN3 Wb (N1.alloc _) (Nat.le_refl _); have b3 := (HB1.out.alloc (.cells #[.int .i64 ((x : Int) + 1), .int .i64 (j : Int), .int .i64 1] 152)).grown hgr3 HAP.out; have HO3 := Lib.hid hown3; have HB3 := Lib.hid b3; have m0 := b3.cell 0; have m1 := b3.cell 1; have lb3 := b3.lt; simp only [List.getElem?_toArray, List.getElem?_cons_zero, List.getElem?_cons_succ] at m0 m1; have HAP3 := Lib.hid (bx_apart b3 hown3 hne); clear hown3 hgr3 hN3 b3)))
                  refine (cMoved_is (x := ((x : Int) + 1)) (y := (j : Int)) (d := 1) (u := ((x : Int) + 1)) (v := ((j : Int) + 1)) (by rw [show dxS 1 = 0 from by decide]; try omega) (by rw [show dyS 1 = 1 from by decide]; try omega) _ (by omega) (by omega) (by omega)).mono ?_
                  rintro e w4 ⟨rfl, n4⟩
                  have b4 := HB3.out.keep n4
                  have o4 := HO3.out.keep n4
                  have N4 := n3.trans n4
                  have p0 := b4.cell 0
                  have p1 := b4.cell 1
                  have f0 := b4.free 0
                  have f1 := b4.free 1
                  have lb4 := b4.lt
                  simp only [List.getElem?_toArray, List.getElem?_cons_zero, List.getElem?_cons_succ] at p0 p1
                  have HB5 := Lib.hid ((b4.set 0 (.int .i64 ((x : Int) + 1))).set 1 (.int .i64 ((j : Int) + 1)))
                  have HO5 := Lib.hid ((o4.setOther (p := ⟨Ab, 0, none⟩) HAP3.out.symm (.int .i64 ((x : Int) + 1))).setOther (p := ⟨Ab, 1, none⟩) HAP3.out.symm (.int .i64 ((j : Int) + 1)))
                  have HN5 := Lib.hid ((N4.setCell (p := ⟨Ab, 0, none⟩) hAb (.int .i64 ((x : Int) + 1))).setCell (p := ⟨Ab, 1, none⟩) hAb (.int .i64 ((j : Int) + 1)))
                  clear b4 o4 N4 n4
                  go_wp2_with fail
                  go_roundw
                  case rel => exact ⟨1 + 1, _, _, _, by omega, rfl, rfl, by unfold Hid; rw [HCS.out, ← List.append_assoc]; exact HO5.out, HB5.out, HN5.out⟩
                  case measure => simp [intOf]
                · go_wp2_with fail
                  try rw [hW2]
                  refine (cIs_is HIB.out Bb _ n cap _ HRC.out HRR.out HBX.out (by omega) (by omega)).mono ?_
                  rintro e w' ⟨rfl, rfl⟩
                  go_wp2_with fail
                  refine (cMoved_is (x := ((x : Int) + 1)) (y := (j : Int)) (d := 1) (u := ((x : Int) + 1)) (v := ((j : Int) + 1)) (by rw [show dxS 1 = 0 from by decide]; try omega) (by rw [show dyS 1 = 1 from by decide]; try omega) _ (by omega) (by omega) (by omega)).mono ?_
                  rintro e w4 ⟨rfl, n4⟩
                  have b4 := HB1.out.keep n4
                  have o4 := HO1.out.keep n4
                  have N4 := N1.trans n4
                  have p0 := b4.cell 0
                  have p1 := b4.cell 1
                  have f0 := b4.free 0
                  have f1 := b4.free 1
                  have lb4 := b4.lt
                  simp only [List.getElem?_toArray, List.getElem?_cons_zero, List.getElem?_cons_succ] at p0 p1
                  have HB5 := Lib.hid ((b4.set 0 (.int .i64 ((x : Int) + 1))).set 1 (.int .i64 ((j : Int) + 1)))
                  have HO5 := Lib.hid ((o4.setOther (p := ⟨Ab, 0, none⟩) HAP.out.symm (.int .i64 ((x : Int) + 1))).setOther (p := ⟨Ab, 1, none⟩) HAP.out.symm (.int .i64 ((j : Int) + 1)))
                  have HN5 := Lib.hid ((N4.setCell (p := ⟨Ab, 0, none⟩) hAb (.int .i64 ((x : Int) + 1))).setCell (p := ⟨Ab, 1, none⟩) hAb (.int .i64 ((j : Int) + 1)))
                  clear b4 o4 N4 n4
                  go_wp2_with fail
                  go_roundw
                  case rel => exact ⟨1 + 1, _, _, _, by omega, rfl, rfl, by unfold Hid; rw [HCS.out]; simpa using HO5.out, HB5.out, HN5.out⟩
                  case measure => simp [intOf]
              · have bA : Bx wr Ab 73 #[.int .i64 ((x : Int) + 1), .int .i64 ((j : Int) + 1)] := HA.out
                have N1 := hN.alloc (.cells #[.int .i64 (x : Int), .int .i64 ((j : Int) + 1)] 73)
                have b1 := bA.alloc (.cells #[.int .i64 (x : Int), .int .i64 ((j : Int) + 1)] 73)
                have o1 := HO.out.alloc (.cells #[.int .i64 (x : Int), .int .i64 ((j : Int) + 1)] 73)
                obtain ⟨W2, hW2⟩ : ∃ W2, wr.alloc (.cells #[.int .i64 (x : Int), .int .i64 ((j : Int) + 1)] 73) = W2 := ⟨_, rfl⟩
                rw [hW2] at N1 b1 o1
                have q0 : W2.cell? ⟨wr.heap.size, 0, none⟩ = some (.int .i64 (x : Int)) := by rw [← hW2]; exact (Bx.mk wr 73 #[.int .i64 (x : Int), .int .i64 ((j : Int) + 1)]).cell 0
                have q1 : W2.cell? ⟨wr.heap.size, 1, none⟩ = some (.int .i64 ((j : Int) + 1)) := by rw [← hW2]; exact (Bx.mk wr 73 #[.int .i64 (x : Int), .int .i64 ((j : Int) + 1)]).cell 1
                have HO1 := Lib.hid o1
                have HRR := Lib.hid (HR.out.keep N1)
                have HBX := Lib.hid (HB.out.keep N1)
                have lA := bA.lt
                have lA2 := b1.lt
                have kw0 : wr.cell? ⟨Ab, 0, none⟩ = some (.int .i64 ((x : Int) + 1)) := bA.cell 0
                have kw1 : wr.cell? ⟨Ab, 1, none⟩ = some (.int .i64 ((j : Int) + 1)) := bA.cell 1
                have k0 : W2.cell? ⟨Ab, 0, none⟩ = some (.int .i64 ((x : Int) + 1)) := b1.cell 0
                have k1 : W2.cell? ⟨Ab, 1, none⟩ = some (.int .i64 ((j : Int) + 1)) := b1.cell 1
                have HCS := Lib.hid (show cellSides rows (x : Int) (j : Int) (2 + 1) = cellSides rows (x : Int) (j : Int) 2 ++ if isR rows (x : Int) ((j : Int) + 1) = true then [] else [⟨((x : Int) + 1), ((j : Int) + 1), 2⟩] from rfl)
                obtain ⟨ib, hib⟩ : ∃ v, isR rows (x : Int) ((j : Int) + 1) = v := ⟨_, rfl⟩
                have HIB := Lib.hid hib
                rw [hib] at HCS
                clear hib HA hN HO
                have HB1 := Lib.hid b1
                have HAP := Lib.hid (bx_apart b1 o1 hne)
                clear b1 o1 bA
                have hix : ∀ W, (Instr.index 205 (.agg #[.int .i64 (x : Int), .int .i64 ((j : Int) - 1), .int .i64 ((x : Int) + 1), .int .i64 (j : Int), .int .i64 (x : Int), .int .i64 ((j : Int) + 1), .int .i64 ((x : Int) - 1), .int .i64 (j : Int)]) (.int .i64 2)).run Try.prog W = .ok (.agg #[.int .i64 (x : Int), .int .i64 ((j : Int) + 1)]) W := fun _ => by kernel_rfl
                cases ib
                · go_wp2_with fail
                  try rw [hW2]
                  refine (cIs_is HIB.out Bb _ n cap _ HRC.out HRR.out HBX.out (by omega) (by omega)).mono ?_
                  rintro e w' ⟨rfl, rfl⟩
                  go_wp2_with ((at_builtin; (refine wpList_pour _ rfl _ _ 148 rfl 152 i0 _ 3 24 Try.underlying148 hi hz0 hz1 hz2 rfl (by omega) Wb.heap.size encSd _ _ _ _ rfl (HO1.out.alloc _) _ 1 1 [(⟨((x : Int) + 1), ((j : Int) + 1), 2⟩ : Sd)] rfl (by exact rd_bx (Bx.mk _ _ #[.int .i64 ((x : Int) + 1), .int .i64 ((j : Int) + 1), .int .i64 2]) encSd_len [(⟨((x : Int) + 1), ((j : Int) + 1), 2⟩ : Sd)] rfl 1 rfl) encSd_one (by simp [maxLen]; omega) (by omega) (N1.alloc _).size ?_; intro A3 cap3 w3 hown3 hgr3 hN3; have n3 := hN3 Wb (N1.alloc _) (Nat.le_refl _); have b3 := (HB1.out.alloc (.cells #[.int .i64 ((x : Int) + 1), .int .i64 ((j : Int) + 1), .int .i64 2] 152)).grown hgr3 HAP.out; have HO3 := Lib.hid hown3; have HB3 := Lib.hid b3; have m0 := b3.cell 0; have m1 := b3.cell 1; have lb3 := b3.lt; simp only [List.getElem?_toArray, List.getElem?_cons_zero, List.getElem?_cons_succ] at m0 m1; have HAP3 := Lib.hid (bx_apart b3 hown3 hne); clear hown3 hgr3 hN3 b3)))
                  refine (cMoved_is (x := ((x : Int) + 1)) (y := ((j : Int) + 1)) (d := 2) (u := (x : Int)) (v := ((j : Int) + 1)) (by rw [show dxS 2 = -1 from by decide]; try omega) (by rw [show dyS 2 = 0 from by decide]; try omega) _ (by omega) (by omega) (by omega)).mono ?_
                  rintro e w4 ⟨rfl, n4⟩
                  have b4 := HB3.out.keep n4
                  have o4 := HO3.out.keep n4
                  have N4 := n3.trans n4
                  have p0 := b4.cell 0
                  have p1 := b4.cell 1
                  have f0 := b4.free 0
                  have f1 := b4.free 1
                  have lb4 := b4.lt
                  simp only [List.getElem?_toArray, List.getElem?_cons_zero, List.getElem?_cons_succ] at p0 p1
                  have HB5 := Lib.hid ((b4.set 0 (.int .i64 (x : Int))).set 1 (.int .i64 ((j : Int) + 1)))
                  have HO5 := Lib.hid ((o4.setOther (p := ⟨Ab, 0, none⟩) HAP3.out.symm (.int .i64 (x : Int))).setOther (p := ⟨Ab, 1, none⟩) HAP3.out.symm (.int .i64 ((j : Int) + 1)))
                  have HN5 := Lib.hid ((N4.setCell (p := ⟨Ab, 0, none⟩) hAb (.int .i64 (x : Int))).setCell (p := ⟨Ab, 1, none⟩) hAb (.int .i64 ((j : Int) + 1)))
                  clear b4 o4 N4 n4
                  go_wp2_with fail
                  go_roundw
                  case rel => exact ⟨2 + 1, _, _, _, by omega, rfl, rfl, by unfold Hid; rw [HCS.out, ← List.append_assoc]; exact HO5.out, HB5.out, HN5.out⟩
                  case measure => simp [intOf]
                · go_wp2_with fail
                  try rw [hW2]
                  refine (cIs_is HIB.out Bb _ n cap _ HRC.out HRR.out HBX.out (by omega) (by omega)).mono ?_
                  rintro e w' ⟨rfl, rfl⟩
                  go_wp2_with fail
                  refine (cMoved_is (x := ((x : Int) + 1)) (y := ((j : Int) + 1)) (d := 2) (u := (x : Int)) (v := ((j : Int) + 1)) (by rw [show dxS 2 = -1 from by decide]; try omega) (by rw [show dyS 2 = 0 from by decide]; try omega) _ (by omega) (by omega) (by omega)).mono ?_
                  rintro e w4 ⟨rfl, n4⟩
                  have b4 := HB1.out.keep n4
                  have o4 := HO1.out.keep n4
                  have N4 := N1.trans n4
                  have p0 := b4.cell 0
                  have p1 := b4.cell 1
                  have f0 := b4.free 0
                  have f1 := b4.free 1
                  have lb4 := b4.lt
                  simp only [List.getElem?_toArray, List.getElem?_cons_zero, List.getElem?_cons_succ] at p0 p1
                  have HB5 := Lib.hid ((b4.set 0 (.int .i64 (x : Int))).set 1 (.int .i64 ((j : Int) + 1)))
                  have HO5 := Lib.hid ((o4.setOther (p := ⟨Ab, 0, none⟩) HAP.out.symm (.int .i64 (x : Int))).setOther (p := ⟨Ab, 1, none⟩) HAP.out.symm (.int .i64 ((j : Int) + 1)))
                  have HN5 := Lib.hid ((N4.setCell (p := ⟨Ab, 0, none⟩) hAb (.int .i64 (x : Int))).setCell (p := ⟨Ab, 1, none⟩) hAb (.int .i64 ((j : Int) + 1)))
                  clear b4 o4 N4 n4
                  go_wp2_with fail
                  go_roundw
                  case rel => exact ⟨2 + 1, _, _, _, by omega, rfl, rfl, by unfold Hid; rw [HCS.out]; simpa using HO5.out, HB5.out, HN5.out⟩
                  case measure => simp [intOf]
              · have bA : Bx wr Ab 73 #[.int .i64 (x : Int), .int .i64 ((j : Int) + 1)] := HA.out
                have N1 := hN.alloc (.cells #[.int .i64 ((x : Int) - 1), .int .i64 (j : Int)] 73)
                have b1 := bA.alloc (.cells #[.int .i64 ((x : Int) - 1), .int .i64 (j : Int)] 73)
                have o1 := HO.out.alloc (.cells #[.int .i64 ((x : Int) - 1), .int .i64 (j : Int)] 73)
                obtain ⟨W2, hW2⟩ : ∃ W2, wr.alloc (.cells #[.int .i64 ((x : Int) - 1), .int .i64 (j : Int)] 73) = W2 := ⟨_, rfl⟩
                rw [hW2] at N1 b1 o1
                have q0 : W2.cell? ⟨wr.heap.size, 0, none⟩ = some (.int .i64 ((x : Int) - 1)) := by rw [← hW2]; exact (Bx.mk wr 73 #[.int .i64 ((x : Int) - 1), .int .i64 (j : Int)]).cell 0
                have q1 : W2.cell? ⟨wr.heap.size, 1, none⟩ = some (.int .i64 (j : Int)) := by rw [← hW2]; exact (Bx.mk wr 73 #[.int .i64 ((x : Int) - 1), .int .i64 (j : Int)]).cell 1
                have HO1 := Lib.hid o1
                have HRR := Lib.hid (HR.out.keep N1)
                have HBX := Lib.hid (HB.out.keep N1)
                have lA := bA.lt
                have lA2 := b1.lt
                have kw0 : wr.cell? ⟨Ab, 0, none⟩ = some (.int .i64 (x : Int)) := bA.cell 0
                have kw1 : wr.cell? ⟨Ab, 1, none⟩ = some (.int .i64 ((j : Int) + 1)) := bA.cell 1
                have k0 : W2.cell? ⟨Ab, 0, none⟩ = some (.int .i64 (x : Int)) := b1.cell 0
                have k1 : W2.cell? ⟨Ab, 1, none⟩ = some (.int .i64 ((j : Int) + 1)) := b1.cell 1
                have HCS := Lib.hid (show cellSides rows (x : Int) (j : Int) (3 + 1) = cellSides rows (x : Int) (j : Int) 3 ++ if isR rows ((x : Int) - 1) (j : Int) = true then [] else [⟨(x : Int), ((j : Int) + 1), 3⟩] from rfl)
                obtain ⟨ib, hib⟩ : ∃ v, isR rows ((x : Int) - 1) (j : Int) = v := ⟨_, rfl⟩
                have HIB := Lib.hid hib
                rw [hib] at HCS
                clear hib HA hN HO
                have HB1 := Lib.hid b1
                have HAP := Lib.hid (bx_apart b1 o1 hne)
                clear b1 o1 bA
                have hix : ∀ W, (Instr.index 205 (.agg #[.int .i64 (x : Int), .int .i64 ((j : Int) - 1), .int .i64 ((x : Int) + 1), .int .i64 (j : Int), .int .i64 (x : Int), .int .i64 ((j : Int) + 1), .int .i64 ((x : Int) - 1), .int .i64 (j : Int)]) (.int .i64 3)).run Try.prog W = .ok (.agg #[.int .i64 ((x : Int) - 1), .int .i64 (j : Int)]) W := fun _ => by kernel_rfl
                cases ib
                · go_wp2_with fail
                  try rw [hW2]
                  refine (cIs_is HIB.out Bb _ n cap _ HRC.out HRR.out HBX.out (by omega) (by omega)).mono ?_
                  rintro e w' ⟨rfl, rfl⟩
                  go_wp2_with ((at_builtin; (refine wpList_pour _ rfl _ _ 148 rfl 152 i0 _ 3 24 Try.underlying148 hi hz0 hz1 hz2 rfl (by omega) Wb.heap.size encSd _ _ _ _ rfl (HO1.out.alloc _) _ 1 1 [(⟨(x : Int), ((j : Int) + 1), 3⟩ : Sd)] rfl (by exact rd_bx (Bx.mk _ _ #[.int .i64 (x : Int), .int .i64 ((j : Int) + 1), .int .i64 3]) encSd_len [(⟨(x : Int), ((j : Int) + 1), 3⟩ : Sd)] rfl 1 rfl) encSd_one (by simp [maxLen]; omega) (by omega) (N1.alloc _).size ?_; intro A3 cap3 w3 hown3 hgr3 hN3; have n3 := hN3 Wb (N1.alloc _) (Nat.le_refl _); have b3 := (HB1.out.alloc (.cells #[.int .i64 (x : Int), .int .i64 ((j : Int) + 1), .int .i64 3] 152)).grown hgr3 HAP.out; have HO3 := Lib.hid hown3; have HB3 := Lib.hid b3; have m0 := b3.cell 0; have m1 := b3.cell 1; have lb3 := b3.lt; simp only [List.getElem?_toArray, List.getElem?_cons_zero, List.getElem?_cons_succ] at m0 m1; have HAP3 := Lib.hid (bx_apart b3 hown3 hne); clear hown3 hgr3 hN3 b3)))
                  refine (cMoved_is (x := (x : Int)) (y := ((j : Int) + 1)) (d := 3) (u := (x : Int)) (v := (j : Int)) (by rw [show dxS 3 = 0 from by decide]; try omega) (by rw [show dyS 3 = -1 from by decide]; try omega) _ (by omega) (by omega) (by omega)).mono ?_
                  rintro e w4 ⟨rfl, n4⟩
                  have b4 := HB3.out.keep n4
                  have o4 := HO3.out.keep n4
                  have N4 := n3.trans n4
                  have p0 := b4.cell 0
                  have p1 := b4.cell 1
                  have f0 := b4.free 0
                  have f1 := b4.free 1
                  have lb4 := b4.lt
                  simp only [List.getElem?_toArray, List.getElem?_cons_zero, List.getElem?_cons_succ] at p0 p1
                  have HB5 := Lib.hid ((b4.set 0 (.int .i64 (x : Int))).set 1 (.int .i64 (j : Int)))
                  have HO5 := Lib.hid ((o4.setOther (p := ⟨Ab, 0, none⟩) HAP3.out.symm (.int .i64 (x : Int))).setOther (p := ⟨Ab, 1, none⟩) HAP3.out.symm (.int .i64 (j : Int)))
                  have HN5 := Lib.hid ((N4.setCell (p := ⟨Ab, 0, none⟩) hAb (.int .i64 (x : Int))).setCell (p := ⟨Ab, 1, none⟩) hAb (.int .i64 (j : Int)))
                  clear b4 o4 N4 n4
                  go_wp2_with fail
                  go_roundw
                  case rel => exact ⟨3 + 1, _, _, _, by omega, rfl, rfl, by unfold Hid; rw [HCS.out, ← List.append_assoc]; exact HO5.out, HB5.out, HN5.out⟩
                  case measure => simp [intOf]
                · go_wp2_with fail
                  try rw [hW2]
                  refine (cIs_is HIB.out Bb _ n cap _ HRC.out HRR.out HBX.out (by omega) (by omega)).mono ?_
                  rintro e w' ⟨rfl, rfl⟩
                  go_wp2_with fail
                  refine (cMoved_is (x := (x : Int)) (y := ((j : Int) + 1)) (d := 3) (u := (x : Int)) (v := (j : Int)) (by rw [show dxS 3 = 0 from by decide]; try omega) (by rw [show dyS 3 = -1 from by decide]; try omega) _ (by omega) (by omega) (by omega)).mono ?_
                  rintro e w4 ⟨rfl, n4⟩
                  have b4 := HB1.out.keep n4
                  have o4 := HO1.out.keep n4
                  have N4 := N1.trans n4
                  have p0 := b4.cell 0
                  have p1 := b4.cell 1
                  have f0 := b4.free 0
                  have f1 := b4.free 1
                  have lb4 := b4.lt
                  simp only [List.getElem?_toArray, List.getElem?_cons_zero, List.getElem?_cons_succ] at p0 p1
                  have HB5 := Lib.hid ((b4.set 0 (.int .i64 (x : Int))).set 1 (.int .i64 (j : Int)))
                  have HO5 := Lib.hid ((o4.setOther (p := ⟨Ab, 0, none⟩) HAP.out.symm (.int .i64 (x : Int))).setOther (p := ⟨Ab, 1, none⟩) HAP.out.symm (.int .i64 (j : Int)))
                  have HN5 := Lib.hid ((N4.setCell (p := ⟨Ab, 0, none⟩) hAb (.int .i64 (x : Int))).setCell (p := ⟨Ab, 1, none⟩) hAb (.int .i64 (j : Int)))
                  clear b4 o4 N4 n4
                  go_wp2_with fail
                  go_roundw
                  case rel => exact ⟨3 + 1, _, _, _, by omega, rfl, rfl, by unfold Hid; rw [HCS.out]; simpa using HO5.out, HB5.out, HN5.out⟩
                  case measure => simp [intOf]
        · obtain rfl : x = rn := by omega
          have HST := Lib.hid (show allSides rows (j + 1) = allSides rows j ++ rowSides rows (j : Int) x by
            show allSides rows j ++ rowSides rows (j : Int) (len0 rows) = _
            rw [HLW.out])
          go_wp2_with fail
          go_roundw
          case rel => exact ⟨j + 1, m, c, C, by omega, by go_num, rfl, by unfold Hid; rw [HST.out]; exact HO.out, hN⟩
          case measure => simp [intOf]; omega
    · obtain rfl : j = n := by omega
      have hmn : m ≤ 1000 := by
        have h1 := HO.out.len
        have h2 := allSides_len rows j
        rw [HLW.out] at h2
        have h3 : j * (4 * lw) ≤ 8 * (4 * 8) := Nat.mul_le_mul (by omega) (by omega)
        omega
      go_wp2_with fail
      refine (sortOwnSd _ C m c _ _ hmn HO.out).mono ?_
      rintro e w3 ⟨rfl, ys, hown, hss, hg⟩
      have N3 := (N0.trans hN).grownOwn (HO.out.base_le N0.size) (Nat.le_refl _) hg
      have HOW := Lib.hid (hown.base_le N0.size)
      go_wp2_with fail
      go_ret
      exact ⟨N3, C, m, c, ys, rfl, hss, HOW.out⟩
end Go.Proofs.Ytaogolnoiffgiaa
