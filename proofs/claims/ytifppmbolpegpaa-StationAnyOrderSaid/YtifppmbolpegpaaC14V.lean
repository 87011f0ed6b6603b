/- The walk of StationAnyOrder. -/
import Derived.BigQuiet
import Derived.BigRegion
import Derived.Deep.AppendLies
import Derived.Deep.Draws
import Derived.Deep.Quiet
import Derived.Deep.QuietTactic
import Derived.Laws.BitsAllLaws
import Derived.Lib.Hide
import Derived.Lib.SliceRun
import Derived.OrdersIn
import Derived.OwnWalkIn
import Derived.RangeFuncCalls
import Derived.Shelf.GgSortFunc.InsertionK
import Derived.Shelf.SlSortCmp.Insertion
import Derived.Shelf.SlSortCmp.NoneTotal
import Derived.Shelf.SlSortCmp.QuietGrown
import Derived.Shelf.SlSortCmp.WholeK
import Derived.Shelf.Spec.SlicesGrow
import Derived.StillTail
import Derived.TacticsIn
import Derived.Test.YtifppmbolpegpaaProg
import Derived.WalkKit
import Derived.WalkLawsBesides
import Derived.WalkSpells
import Derived.Test.YtifppmbolpegpaaC14D
import Derived.Test.YtifppmbolpegpaaC14U

namespace Go.Proofs.Ytifppmbolpegpaa
open Go.RowKit Go.Sky Go.Sort

theorem lens_any (A B C : Option Addr) (n m l ca cb cc : Nat) (w : World) (h : 10 < n ∨ (n ≤ 10 ∧ 10 < m) ∨ (n ≤ 10 ∧ m ≤ 10 ∧ 10 < l)) :
    Calls Try.prog 5 #[.slice A n ca, .slice B m cb, .slice C l cc] w fun e w' => e = .returned (.bool true) ∧ New w w' := by
  rcases h with h | ⟨h, k⟩ | ⟨h, k, j⟩
  · have d1 : decide ((10 : Int) < (n : Int)) = true := decide_eq_true (by omega)
    go_enter Try.func5, Try.ntmps5
    go_wp2_with fail
    refine (awake_any _).mono ?_
    rintro e w1 ⟨rfl, n1⟩
    go_wp2_with fail
    go_ret
    exact ⟨rfl, n1⟩
  · have d1 : decide ((10 : Int) < (n : Int)) = false := decide_eq_false (by omega)
    have d2 : decide ((10 : Int) < (m : Int)) = true := decide_eq_true (by omega)
    go_enter Try.func5, Try.ntmps5
    go_wp2_with fail
    refine (awake_any _).mono ?_
    rintro e w1 ⟨rfl, n1⟩
    go_wp2_with fail
    go_ret
    exact ⟨rfl, n1⟩
  · have d1 : decide ((10 : Int) < (n : Int)) = false := decide_eq_false (by omega)
    have d2 : decide ((10 : Int) < (m : Int)) = false := decide_eq_false (by omega)
    have d3 : decide ((10 : Int) < (l : Int)) = true := decide_eq_true (by omega)
    go_enter Try.func5, Try.ntmps5
    go_wp2_with fail
    refine (awake_any _).mono ?_
    rintro e w1 ⟨rfl, n1⟩
    go_wp2_with fail
    go_ret
    exact ⟨rfl, n1⟩

set_option maxRecDepth 100000 in
set_option maxHeartbeats 4000000 in
theorem checks_any (A B C : Option Addr) (n m l ca cb cc : Nat) (a b c : List Sky.Rec) (w : World) (hn : n ≤ 10) (hm : m ≤ 10) (hl : l ≤ 10) (hra : Rd w 3 encRec A n a) (hrb : Rd w 3 encRec B m b) (hrc : Rd w 3 encRec C l c)
    (h : fewR a = false ∨ (fewR a = true ∧ fewR b = false) ∨ (fewR a = true ∧ fewR b = true ∧ fewR c = false) ∨ (fewR a = true ∧ fewR b = true ∧ fewR c = true ∧ recsS a ≠ 0) ∨ (fewR a = true ∧ fewR b = true ∧ fewR c = true ∧ recsS a = 0 ∧ recsS b ≠ 0) ∨
      (fewR a = true ∧ fewR b = true ∧ fewR c = true ∧ recsS a = 0 ∧ recsS b = 0 ∧ recsS c ≠ 0)) :
    Calls Try.prog 5 #[.slice A n ca, .slice B m cb, .slice C l cc] w fun e w' => e = .returned (.bool true) ∧ New w w' := by
  have d1 : decide ((10 : Int) < (n : Int)) = false := decide_eq_false (by omega)
  have d2 : decide ((10 : Int) < (m : Int)) = false := decide_eq_false (by omega)
  have d3 : decide ((10 : Int) < (l : Int)) = false := decide_eq_false (by omega)
  have HRA := Lib.hid hra
  have HRB := Lib.hid hrb
  have HRC := Lib.hid hrc
  clear hra hrb hrc
  rcases h with h | ⟨h1, h⟩ | ⟨h1, h2, h⟩ | ⟨h1, h2, h3, h⟩ | ⟨h1, h2, h3, h4, h⟩ | ⟨h1, h2, h3, h4, h5, h⟩
  · have HFA := Lib.hid h
    clear h
    go_enter Try.func5, Try.ntmps5
    go_wp2_with fail
    refine (awake_any _).mono ?_
    rintro e w1 ⟨rfl, n1⟩
    have N1 := n1
    go_wp2_with fail
    refine (fewRecords_any A n ca a _ (HRA.out.keep N1)).mono ?_
    rintro e w' ⟨rfl, rfl⟩
    rw [HFA.out]
    go_wp2_with fail
    go_ret
    exact ⟨rfl, N1⟩
  · have HXA := Lib.hid (show ∀ x ∈ a, x.n.size ≤ 1000 from fun x hx => by have := (few_len h1).2 x hx; omega)
    have HFA := Lib.hid h1
    have HFB := Lib.hid h
    clear h h1
    go_enter Try.func5, Try.ntmps5
    go_wp2_with fail
    refine (awake_any _).mono ?_
    rintro e w1 ⟨rfl, n1⟩
    have N1 := n1
    go_wp2_with fail
    refine (fewRecords_any A n ca a _ (HRA.out.keep N1)).mono ?_
    rintro e w' ⟨rfl, rfl⟩
    rw [HFA.out]
    go_wp2_with fail
    refine (fewRecords_any B m cb b _ (HRB.out.keep N1)).mono ?_
    rintro e w' ⟨rfl, rfl⟩
    rw [HFB.out]
    go_wp2_with fail
    go_ret
    exact ⟨rfl, N1⟩
  · have HXA := Lib.hid (show ∀ x ∈ a, x.n.size ≤ 1000 from fun x hx => by have := (few_len h1).2 x hx; omega)
    have HXB := Lib.hid (show ∀ x ∈ b, x.n.size ≤ 1000 from fun x hx => by have := (few_len h2).2 x hx; omega)
    have HFA := Lib.hid h1
    have HFB := Lib.hid h2
    have HFC := Lib.hid h
    clear h h1 h2
    go_enter Try.func5, Try.ntmps5
    go_wp2_with fail
    refine (awake_any _).mono ?_
    rintro e w1 ⟨rfl, n1⟩
    have N1 := n1
    go_wp2_with fail
    refine (fewRecords_any A n ca a _ (HRA.out.keep N1)).mono ?_
    rintro e w' ⟨rfl, rfl⟩
    rw [HFA.out]
    go_wp2_with fail
    refine (fewRecords_any B m cb b _ (HRB.out.keep N1)).mono ?_
    rintro e w' ⟨rfl, rfl⟩
    rw [HFB.out]
    go_wp2_with fail
    refine (fewRecords_any C l cc c _ (HRC.out.keep N1)).mono ?_
    rintro e w' ⟨rfl, rfl⟩
    rw [HFC.out]
    go_wp2_with fail
    go_ret
    exact ⟨rfl, N1⟩
  · have HXA := Lib.hid (show ∀ x ∈ a, x.n.size ≤ 1000 from fun x hx => by have := (few_len h1).2 x hx; omega)
    have HXB := Lib.hid (show ∀ x ∈ b, x.n.size ≤ 1000 from fun x hx => by have := (few_len h2).2 x hx; omega)
    have HXC := Lib.hid (show ∀ x ∈ c, x.n.size ≤ 1000 from fun x hx => by have := (few_len h3).2 x hx; omega)
    have HFA := Lib.hid h1
    have HFB := Lib.hid h2
    have HFC := Lib.hid h3
    obtain ⟨E, hE⟩ : ∃ e, recsS a = e := ⟨_, rfl⟩
    rw [hE] at h
    have HEA := Lib.hid hE
    have d4 : (E != 0) = true := by simpa using h
    clear hE
    clear h h1 h2 h3
    go_enter Try.func5, Try.ntmps5
    go_wp2_with fail
    refine (awake_any _).mono ?_
    rintro e w1 ⟨rfl, n1⟩
    have N1 := n1
    go_wp2_with fail
    refine (fewRecords_any A n ca a _ (HRA.out.keep N1)).mono ?_
    rintro e w' ⟨rfl, rfl⟩
    rw [HFA.out]
    go_wp2_with fail
    refine (fewRecords_any B m cb b _ (HRB.out.keep N1)).mono ?_
    rintro e w' ⟨rfl, rfl⟩
    rw [HFB.out]
    go_wp2_with fail
    refine (fewRecords_any C l cc c _ (HRC.out.keep N1)).mono ?_
    rintro e w' ⟨rfl, rfl⟩
    rw [HFC.out]
    go_wp2_with fail
    refine (refRecordsErr_any A n ca a _ (by omega) HXA.out (HRA.out.keep N1)).mono ?_
    rintro e wra ⟨rfl, nr⟩
    have N1 := N1.trans nr
    clear nr
    rw [HEA.out]
    go_wp2_with fail
    go_ret
    exact ⟨rfl, N1⟩
  · have HXA := Lib.hid (show ∀ x ∈ a, x.n.size ≤ 1000 from fun x hx => by have := (few_len h1).2 x hx; omega)
    have HXB := Lib.hid (show ∀ x ∈ b, x.n.size ≤ 1000 from fun x hx => by have := (few_len h2).2 x hx; omega)
    have HXC := Lib.hid (show ∀ x ∈ c, x.n.size ≤ 1000 from fun x hx => by have := (few_len h3).2 x hx; omega)
    have HFA := Lib.hid h1
    have HFB := Lib.hid h2
    have HFC := Lib.hid h3
    have HEA := Lib.hid h4
    obtain ⟨E, hE⟩ : ∃ e, recsS b = e := ⟨_, rfl⟩
    rw [hE] at h
    have HEB := Lib.hid hE
    have d4 : (E != 0) = true := by simpa using h
    clear hE
    clear h h1 h2 h3 h4
    go_enter Try.func5, Try.ntmps5
    go_wp2_with fail
    refine (awake_any _).mono ?_
    rintro e w1 ⟨rfl, n1⟩
    have N1 := n1
    go_wp2_with fail
    refine (fewRecords_any A n ca a _ (HRA.out.keep N1)).mono ?_
    rintro e w' ⟨rfl, rfl⟩
    rw [HFA.out]
    go_wp2_with fail
    refine (fewRecords_any B m cb b _ (HRB.out.keep N1)).mono ?_
    rintro e w' ⟨rfl, rfl⟩
    rw [HFB.out]
    go_wp2_with fail
    refine (fewRecords_any C l cc c _ (HRC.out.keep N1)).mono ?_
    rintro e w' ⟨rfl, rfl⟩
    rw [HFC.out]
    go_wp2_with fail
    refine (refRecordsErr_any A n ca a _ (by omega) HXA.out (HRA.out.keep N1)).mono ?_
    rintro e wra ⟨rfl, nr⟩
    have N1 := N1.trans nr
    clear nr
    rw [HEA.out]
    go_wp2_with fail
    refine (refRecordsErr_any B m cb b _ (by omega) HXB.out (HRB.out.keep N1)).mono ?_
    rintro e wrb ⟨rfl, nr⟩
    have N1 := N1.trans nr
    clear nr
    rw [HEB.out]
    go_wp2_with fail
    go_ret
    exact ⟨rfl, N1⟩
  · have HXA := Lib.hid (show ∀ x ∈ a, x.n.size ≤ 1000 from fun x hx => by have := (few_len h1).2 x hx; omega)
    have HXB := Lib.hid (show ∀ x ∈ b, x.n.size ≤ 1000 from fun x hx => by have := (few_len h2).2 x hx; omega)
    have HXC := Lib.hid (show ∀ x ∈ c, x.n.size ≤ 1000 from fun x hx => by have := (few_len h3).2 x hx; omega)
    have HFA := Lib.hid h1
    have HFB := Lib.hid h2
    have HFC := Lib.hid h3
    have HEA := Lib.hid h4
    have HEB := Lib.hid h5
    obtain ⟨E, hE⟩ : ∃ e, recsS c = e := ⟨_, rfl⟩
    rw [hE] at h
    have HEC := Lib.hid hE
    have d4 : (E != 0) = true := by simpa using h
    clear hE
    clear h h1 h2 h3 h4 h5
    go_enter Try.func5, Try.ntmps5
    go_wp2_with fail
    refine (awake_any _).mono ?_
    rintro e w1 ⟨rfl, n1⟩
    have N1 := n1
    go_wp2_with fail
    refine (fewRecords_any A n ca a _ (HRA.out.keep N1)).mono ?_
    rintro e w' ⟨rfl, rfl⟩
    rw [HFA.out]
    go_wp2_with fail
    refine (fewRecords_any B m cb b _ (HRB.out.keep N1)).mono ?_
    rintro e w' ⟨rfl, rfl⟩
    rw [HFB.out]
    go_wp2_with fail
    refine (fewRecords_any C l cc c _ (HRC.out.keep N1)).mono ?_
    rintro e w' ⟨rfl, rfl⟩
    rw [HFC.out]
    go_wp2_with fail
    refine (refRecordsErr_any A n ca a _ (by omega) HXA.out (HRA.out.keep N1)).mono ?_
    rintro e wra ⟨rfl, nr⟩
    have N1 := N1.trans nr
    clear nr
    rw [HEA.out]
    go_wp2_with fail
    refine (refRecordsErr_any B m cb b _ (by omega) HXB.out (HRB.out.keep N1)).mono ?_
    rintro e wrb ⟨rfl, nr⟩
    have N1 := N1.trans nr
    clear nr
    rw [HEB.out]
    go_wp2_with fail
    refine (refRecordsErr_any C l cc c _ (by omega) HXC.out (HRC.out.keep N1)).mono ?_
    rintro e wrc ⟨rfl, nr⟩
    have N1 := N1.trans nr
    clear nr
    rw [HEC.out]
    go_wp2_with fail
    go_ret
    exact ⟨rfl, N1⟩

set_option maxRecDepth 100000 in
set_option maxHeartbeats 8000000 in
theorem anyOrder_in (A B C : Option Addr) (n m l ca cb cc : Nat) (a b c : List Sky.Rec) (w : World) (hn : n ≤ 10) (hm : m ≤ 10) (hl : l ≤ 10) (hra : Rd w 3 encRec A n a) (hrb : Rd w 3 encRec B m b) (hrc : Rd w 3 encRec C l c)
    (h1 : fewR a = true) (h2 : fewR b = true) (h3 : fewR c = true) (h4 : recsS a = 0) (h5 : recsS b = 0) (h6 : recsS c = 0) :
    Calls Try.prog 5 #[.slice A n ca, .slice B m cb, .slice C l cc] w fun e w' => e = .returned (.bool true) ∧ New w w' := by
  have d1 : decide ((10 : Int) < (n : Int)) = false := decide_eq_false (by omega)
  have d2 : decide ((10 : Int) < (m : Int)) = false := decide_eq_false (by omega)
  have d3 : decide ((10 : Int) < (l : Int)) = false := decide_eq_false (by omega)
  obtain ⟨X, hX⟩ : ∃ l, mergeR (a ++ b) = l := ⟨_, rfl⟩
  obtain ⟨Y, hY⟩ : ∃ l, mergeR (b ++ c) = l := ⟨_, rfl⟩
  obtain ⟨L, hL⟩ : ∃ l, mergeR (X ++ c) = l := ⟨_, rfl⟩
  obtain ⟨kx, hkx⟩ : ∃ k, X.length = k := ⟨_, rfl⟩
  obtain ⟨ky, hky⟩ : ∃ k, Y.length = k := ⟨_, rfl⟩
  obtain ⟨k, hk⟩ : ∃ k, L.length = k := ⟨_, rfl⟩
  have hla := hra.len
  have hlb := hrb.len
  have hlc := hrc.len
  have mX : MergeOf (a ++ b) X := hX ▸ merge_mergeR (a ++ b)
  have mY : MergeOf (b ++ c) Y := hY ▸ merge_mergeR (b ++ c)
  have mL : MergeOf (X ++ c) L := hL ▸ merge_mergeR (X ++ c)
  have hR : mergeR (a ++ Y) = L := ((mX.assoc mL mY (merge_mergeR (a ++ Y)))).symm
  have mA : MergeOf (a ++ b ++ c) L := mX.left mL
  have lX := mX.length_le
  have lY := mY.length_le
  have lA := mA.length_le
  simp only [List.length_append, hla, hlb, hlc, hkx, hky, hk] at lX lY lA
  obtain ⟨e1, l1⟩ := merged_ok h4 h5 (by rw [hX, hkx]; omega)
  obtain ⟨e2, l2⟩ := merged_ok h5 h6 (by rw [hY, hky]; omega)
  rw [hX] at l1
  rw [hY] at l2
  have zX := recsS_mergeR h4 h5 (by rw [hX, hkx]; omega)
  have zY := recsS_mergeR h5 h6 (by rw [hY, hky]; omega)
  rw [hX] at zX
  rw [hY] at zY
  obtain ⟨e3, l3⟩ := merged_ok zX h6 (by rw [hL, hk]; omega)
  obtain ⟨e4, l4⟩ := merged_ok h4 zY (by rw [hR, hk]; omega)
  rw [hL] at l3
  rw [hR] at l4
  have xa : ∀ x ∈ a, x.n.size ≤ 1000 := fun x hx => by have := (few_len h1).2 x hx; omega
  have xb : ∀ x ∈ b, x.n.size ≤ 1000 := fun x hx => by have := (few_len h2).2 x hx; omega
  have xc : ∀ x ∈ c, x.n.size ≤ 1000 := fun x hx => by have := (few_len h3).2 x hx; omega
  have xX := merge_names xa xb
  have xY := merge_names xb xc
  rw [hX] at xX
  rw [hY] at xY
  have HXA := Lib.hid xa
  have HXB := Lib.hid xb
  have HXC := Lib.hid xc
  have HXX := Lib.hid xX
  have HXY := Lib.hid xY
  have HFA := Lib.hid h1
  have HFB := Lib.hid h2
  have HFC := Lib.hid h3
  have HEA := Lib.hid h4
  have HEB := Lib.hid h5
  have HEC := Lib.hid h6
  have HE1 := Lib.hid e1
  have HL1 := Lib.hid l1
  have HE2 := Lib.hid e2
  have HL2 := Lib.hid l2
  have HE3 := Lib.hid e3
  have HL3 := Lib.hid l3
  have HE4 := Lib.hid e4
  have HL4 := Lib.hid l4
  have HKX := Lib.hid hkx
  have HKY := Lib.hid hky
  have HK := Lib.hid hk
  have HMA := Lib.hid mA
  have HRA := Lib.hid hra
  have HRB := Lib.hid hrb
  have HRC := Lib.hid hrc
  obtain ⟨i0, hi, hz0, hz1, hz2⟩ := info_parts infoRec
  clear h1 h2 h3 h4 h5 h6 e1 e2 e3 e4 l1 l2 l3 l4 hkx hky hk hla hlb hlc mX mY mL hR hX hY hL zX zY xa xb xc xX xY mA hra hrb hrc
  go_enter Try.func5, Try.ntmps5
  go_wp2_with fail
  refine (awake_any _).mono ?_
  rintro e w1 ⟨rfl, n1⟩
  have N1 := n1
  go_wp2_with fail
  refine (fewRecords_any A n ca a _ (HRA.out.keep N1)).mono ?_
  rintro e w' ⟨rfl, rfl⟩
  rw [HFA.out]
  go_wp2_with fail
  refine (fewRecords_any B m cb b _ (HRB.out.keep N1)).mono ?_
  rintro e w' ⟨rfl, rfl⟩
  rw [HFB.out]
  go_wp2_with fail
  refine (fewRecords_any C l cc c _ (HRC.out.keep N1)).mono ?_
  rintro e w' ⟨rfl, rfl⟩
  rw [HFC.out]
  go_wp2_with fail
  refine (refRecordsErr_any A n ca a _ (by omega) HXA.out (HRA.out.keep N1)).mono ?_
  rintro e wra ⟨rfl, nr⟩
  have N1 := N1.trans nr
  clear nr
  rw [HEA.out]
  go_wp2_with fail
  refine (refRecordsErr_any B m cb b _ (by omega) HXB.out (HRB.out.keep N1)).mono ?_
  rintro e wrb ⟨rfl, nr⟩
  have N1 := N1.trans nr
  clear nr
  rw [HEB.out]
  go_wp2_with fail
  refine (refRecordsErr_any C l cc c _ (by omega) HXC.out (HRC.out.keep N1)).mono ?_
  rintro e wrc ⟨rfl, nr⟩
  have N1 := N1.trans nr
  clear nr
  rw [HEC.out]
  go_wp2_with fail
  refine (copyRecs_any A n ca a _ (by omega) (HRA.out.keep N1)).mono ?_
  rintro e wc1a ⟨K1a, k1a, rfl, oc, nc⟩
  have N1 := N1.trans nc
  have HK1a := Lib.hid oc.rd
  clear oc nc
  go_wp2_with fail
  refine (copyRecs_any B m cb b _ (by omega) (HRB.out.keep N1)).mono ?_
  rintro e wc1b ⟨K1b, k1b, rfl, oc, nc⟩
  have N1 := N1.trans nc
  have HK1b := Lib.hid oc.rd
  have HK1a := Lib.hid (HK1a.out.keep nc)
  clear oc nc
  go_wp2_with fail
  refine (mergedIs K1a K1b n m k1a k1b _ HE1.out HL1.out HKX.out (by omega) (by omega) HXA.out HXB.out HK1a.out HK1b.out).mono ?_
  rintro e wm1 ⟨nc, M1, m1, rfl, rm⟩
  have N1 := N1.trans nc
  have HM1 := Lib.hid rm
  clear nc rm HK1a HK1b
  go_wp2_with fail
  refine (copyRecs_any B m cb b _ (by omega) (HRB.out.keep N1)).mono ?_
  rintro e wc2a ⟨K2a, k2a, rfl, oc, nc⟩
  have N1 := N1.trans nc
  have HK2a := Lib.hid oc.rd
  have HM1 := Lib.hid (HM1.out.keep nc)
  clear oc nc
  go_wp2_with fail
  refine (copyRecs_any C l cc c _ (by omega) (HRC.out.keep N1)).mono ?_
  rintro e wc2b ⟨K2b, k2b, rfl, oc, nc⟩
  have N1 := N1.trans nc
  have HK2b := Lib.hid oc.rd
  have HM1 := Lib.hid (HM1.out.keep nc)
  have HK2a := Lib.hid (HK2a.out.keep nc)
  clear oc nc
  go_wp2_with fail
  refine (mergedIs K2a K2b m l k2a k2b _ HE2.out HL2.out HKY.out (by omega) (by omega) HXB.out HXC.out HK2a.out HK2b.out).mono ?_
  rintro e wm2 ⟨nc, M2, m2, rfl, rm⟩
  have N1 := N1.trans nc
  have HM2 := Lib.hid rm
  have HM1 := Lib.hid (HM1.out.keep nc)
  clear nc rm HK2a HK2b
  go_wp2_with fail
  refine (copyRecs_any M1 kx m1 X _ (by omega) (HM1.out)).mono ?_
  rintro e wc3a ⟨K3a, k3a, rfl, oc, nc⟩
  have N1 := N1.trans nc
  have HK3a := Lib.hid oc.rd
  have HM1 := Lib.hid (HM1.out.keep nc)
  have HM2 := Lib.hid (HM2.out.keep nc)
  clear oc nc
  go_wp2_with fail
  refine (copyRecs_any C l cc c _ (by omega) (HRC.out.keep N1)).mono ?_
  rintro e wc3b ⟨K3b, k3b, rfl, oc, nc⟩
  have N1 := N1.trans nc
  have HK3b := Lib.hid oc.rd
  have HM1 := Lib.hid (HM1.out.keep nc)
  have HM2 := Lib.hid (HM2.out.keep nc)
  have HK3a := Lib.hid (HK3a.out.keep nc)
  clear oc nc
  go_wp2_with fail
  refine (mergedIs K3a K3b kx l k3a k3b _ HE3.out HL3.out HK.out (by omega) (by omega) HXX.out HXC.out HK3a.out HK3b.out).mono ?_
  rintro e wm3 ⟨nc, M3, m3, rfl, rm⟩
  have N1 := N1.trans nc
  have HM3 := Lib.hid rm
  have HM1 := Lib.hid (HM1.out.keep nc)
  have HM2 := Lib.hid (HM2.out.keep nc)
  clear nc rm HK3a HK3b
  go_wp2_with fail
  refine (copyRecs_any A n ca a _ (by omega) (HRA.out.keep N1)).mono ?_
  rintro e wc4a ⟨K4a, k4a, rfl, oc, nc⟩
  have N1 := N1.trans nc
  have HK4a := Lib.hid oc.rd
  have HM2 := Lib.hid (HM2.out.keep nc)
  have HM3 := Lib.hid (HM3.out.keep nc)
  clear oc nc
  go_wp2_with fail
  refine (copyRecs_any M2 ky m2 Y _ (by omega) (HM2.out)).mono ?_
  rintro e wc4b ⟨K4b, k4b, rfl, oc, nc⟩
  have N1 := N1.trans nc
  have HK4b := Lib.hid oc.rd
  have HM2 := Lib.hid (HM2.out.keep nc)
  have HM3 := Lib.hid (HM3.out.keep nc)
  have HK4a := Lib.hid (HK4a.out.keep nc)
  clear oc nc
  go_wp2_with fail
  refine (mergedIs K4a K4b n ky k4a k4b _ HE4.out HL4.out HK.out (by omega) (by omega) HXA.out HXY.out HK4a.out HK4b.out).mono ?_
  rintro e wm4 ⟨nc, M4, m4, rfl, rm⟩
  have N1 := N1.trans nc
  have HM4 := Lib.hid rm
  have HM2 := Lib.hid (HM2.out.keep nc)
  have HM3 := Lib.hid (HM3.out.keep nc)
  clear nc rm HK4a HK4b
  go_wp2_with fail
  refine (recs_like M3 M4 k m3 m4 L _ (by omega) HM3.out HM4.out).mono ?_
  rintro e w5 ⟨rfl, nc⟩
  have N1 := N1.trans nc
  have HM35 := Lib.hid (HM3.out.keep nc)
  have Nw5 := Lib.hid N1
  clear nc HM4 HM2 HM1 HM3
  go_wp2_with fail
  refine (copyRecs_any A n ca a _ (by omega) (HRA.out.keep N1)).mono ?_
  rintro e wc5 ⟨K5, k5, rfl, oc, nc⟩
  have N1 := N1.trans nc
  have HK5 := Lib.hid oc.rd
  have HO5 := Lib.hid oc
  have HB5 := Lib.hid (HRB.out.keep N1)
  have Nc := Lib.hid nc
  clear oc nc HK5
  go_wp2_with (first | (at_builtin; refine wpList_pour _ rfl _ _ 41 rfl 50 i0 _ 3 40 Try.underlying41 hi hz0 hz1 hz2 rfl (by omega) w5.heap.size encRec _ _ _ _ rfl HO5.out _ _ _ _ rfl HB5.out encRec_one (by simp [maxLen]; omega) (by omega) Nc.out.size ?_; intro A6 c6 w6 ho6 hg6 hN6) | (at_builtin; refine wpList_pour _ rfl _ _ 41 rfl 50 i0 _ 3 40 Try.underlying41 hi hz0 hz1 hz2 rfl (by omega) w5.heap.size encRec _ _ _ _ rfl ho6 _ _ _ _ rfl (HRC.out.keep (Nw5.out.trans (hN6 w5 Nc.out (Nat.le_refl _)))) encRec_one (by simp [maxLen]; omega) (by omega) (hN6 w5 Nc.out (Nat.le_refl _)).size ?_; intro A7 c7 w7 ho7 hg7 hN7))
  have n7 := hN7 w5 (hN6 w5 Nc.out (Nat.le_refl _)) (Nat.le_refl _)
  have N7 := Nw5.out.trans n7
  have HM3 := Lib.hid (HM35.out.keep n7)
  have HALL := Lib.hid ho7.rd
  obtain ⟨N, hN⟩ : ∃ N, n + m + l = N := ⟨_, rfl⟩
  rw [hN] at HALL lA ⊢
  have hN30 : N ≤ 30 := by omega
  clear ho7 hg7 hN7 n7 ho6 hg6 hN6 HO5 HB5 Nc hN HM35 Nw5
  go_loopw [16, 17, 18] (fun v16 _ _ wr => ∃ i : Nat, i ≤ N ∧ v16 = .int .i64 (i : Int) ∧ New w7 wr) (fun v16 _ _ _ => N - (intOf v16).toNat)
  case atStart => exact ⟨0, by omega, rfl, New.refl _⟩
  case round =>
    obtain ⟨i, hi2, rfl, nr⟩ := hrel
    by_cases hlt : i < N
    · obtain ⟨b1, o1, x, hA7, hb1, hx, hc⟩ := (HALL.out.keep nr).at_ hlt
      have HX := Lib.hid hx
      have HA7 := Lib.hid hA7
      have HC := Lib.hid hc
      have hxm := List.mem_of_getElem? hx
      have HXM := Lib.hid hxm
      have j0 : (0 : Int) ≤ (i : Int) := by omega
      have j1 : (i : Int) < (N : Int) := by omega
      clear hx hc hxm hA7
      go_wp2_with fail
      go_loopw [17, 18] (fun v17 v18 wx => ∃ j : Nat, j ≤ k ∧ v18 = .int .i64 (j : Int) ∧ v17 = .bool (foundR L x j) ∧ New wr wx) (fun _ v18 _ => k - (intOf v18).toNat)
      case atStart => exact ⟨0, by omega, rfl, rfl, New.refl _⟩
      case round =>
        obtain ⟨j, hj, rfl, rfl, nx⟩ := hrel
        by_cases hjk : j < k
        · obtain ⟨b2, o2, y, hM, hb2, hy, hc2⟩ := (HM3.out.keep (nr.trans nx)).at_ hjk
          have g0 := hc2 0 _ rfl
          have g1 := hc2 1 _ rfl
          have f0 := nx.cell (HC.out 0 _ rfl)
          have f1 := nx.cell (HC.out 1 _ rfl)
          simp only [Nat.add_zero] at g0 f0
          have l0 : (0 : Int) ≤ (j : Int) := by omega
          have l1 : (j : Int) < (k : Int) := by omega
          have lb1 : b1 < _ := World.block_lt_of_cell? _ _ f0
          have hst := foundR_step (x := x) hy
          have hA7 := HA7.out
          by_cases hq : y.n.toList = x.n.toList
          · have hno := found_no HMA.out hy hq
            have hver := (best_of HMA.out HXM.out (List.mem_of_getElem? hy) hq).version
            have dq : (y.n.toList == x.n.toList) = true := beq_iff_eq.2 hq
            have dv : decide (y.v < x.v) = false := decide_eq_false (by omega)
            rw [hno, dq] at hst
            rw [hno]
            have HST := Lib.hid hst
            clear hst hno hver hy hc2
            subst hM hA7
            go_wp2
            (refine wp_region_new (by kernel_rfl) (by kernel_rfl) ?_; (repeat (go_big_quiet_step ((fail)))); refine wpQuiet_nil ?_)
            intro w8 n8
            have g0 := n8.cell g0
            have g1 := n8.cell g1
            have f0 := n8.cell f0
            have f1 := n8.cell f1
            have lb1 : b1 < _ := World.block_lt_of_cell? _ _ f0
            have lb2 : b2 < _ := World.block_lt_of_cell? _ _ g0
            go_wp2
            (refine wp_region_new (by kernel_rfl) (by kernel_rfl) ?_; (repeat (go_big_quiet_step ((fail)))); refine wpQuiet_nil ?_)
            intro w9 n9
            go_wp2
            go_roundw
            case rel => exact ⟨j + 1, by omega, by go_num, by rw [HST.out]; rfl, (nx.trans n8).trans n9⟩
            case measure => simp [intOf]; omega
          · have dq : (y.n.toList == x.n.toList) = false := beq_eq_false_iff_ne.2 hq
            rw [dq, Bool.or_false] at hst
            obtain ⟨fb, hfb⟩ : ∃ f, foundR L x j = f := ⟨_, rfl⟩
            rw [hfb] at hst ⊢
            have HST := Lib.hid hst
            clear hst hfb hy hc2
            subst hM hA7
            go_wp2
            (refine wp_region_new (by kernel_rfl) (by kernel_rfl) ?_; (repeat (go_big_quiet_step ((fail)))); refine wpQuiet_nil ?_)
            intro w8 n8
            go_wp2
            go_roundw
            case rel => exact ⟨j + 1, by omega, by go_num, by rw [HST.out], nx.trans n8⟩
            case measure => simp [intOf]; omega
        · have hjk' : j = k := by omega
          rw [hjk', found_end HMA.out HXM.out HK.out]
          go_wp2_with fail
          go_roundw
          case rel => exact ⟨i + 1, by omega, by go_num, nr.trans nx⟩
          case measure => simp [intOf]; omega
    · have dl : decide ((k : Int) ≤ (N : Int)) = true := decide_eq_true (by omega)
      go_wp2_with fail
      go_ret
      exact ⟨rfl, N7.trans nr⟩

theorem anyOrder_any (A B C : Option Addr) (n m l ca cb cc : Nat) (a b c : List Sky.Rec) (w : World) (hra : Rd w 3 encRec A n a) (hrb : Rd w 3 encRec B m b) (hrc : Rd w 3 encRec C l c) :
    Calls Try.prog 5 #[.slice A n ca, .slice B m cb, .slice C l cc] w fun e w' => e = .returned (.bool true) ∧ New w w' := by
  by_cases hn : 10 < n
  · exact lens_any A B C n m l ca cb cc w (.inl hn)
  by_cases hm : 10 < m
  · exact lens_any A B C n m l ca cb cc w (.inr (.inl ⟨by omega, hm⟩))
  by_cases hl : 10 < l
  · exact lens_any A B C n m l ca cb cc w (.inr (.inr ⟨by omega, by omega, hl⟩))
  have go := checks_any A B C n m l ca cb cc a b c w (by omega) (by omega) (by omega) hra hrb hrc
  cases h1 : fewR a
  · exact go (.inl h1)
  cases h2 : fewR b
  · exact go (.inr (.inl ⟨h1, h2⟩))
  cases h3 : fewR c
  · exact go (.inr (.inr (.inl ⟨h1, h2, h3⟩)))
  by_cases h4 : recsS a = 0
  · by_cases h5 : recsS b = 0
    · by_cases h6 : recsS c = 0
      · exact anyOrder_in A B C n m l ca cb cc a b c w (by omega) (by omega) (by omega) hra hrb hrc h1 h2 h3 h4 h5 h6
      · exact go (.inr (.inr (.inr (.inr (.inr ⟨h1, h2, h3, h4, h5, h6⟩)))))
    · exact go (.inr (.inr (.inr (.inr (.inl ⟨h1, h2, h3, h4, h5⟩)))))
  · exact go (.inr (.inr (.inr (.inl ⟨h1, h2, h3, h4⟩))))
end Go.Proofs.Ytifppmbolpegpaa
