/- Contracts: records copied, rows of records against their like.
   Contracts: the error of records.
   Contracts: the reference's error of records.
   Contracts: fewRecords.
   Contracts: the second closure of Merged. -/
import Derived.BigQuiet
import Derived.BigRegion
import Derived.Deep.AppendLies
import Derived.Deep.Draws
import Derived.Deep.Quiet
import Derived.Deep.QuietTactic
import Derived.Laws.BitsAllLaws
import Derived.Lib.Hide
import Derived.OrdersIn
import Derived.OwnWalkIn
import Derived.RangeFuncCalls
import Derived.Shelf.SlSortCmp.Insertion
import Derived.Shelf.SlSortCmp.QuietGrown
import Derived.StillTail
import Derived.TacticsIn
import Derived.Test.YtifppmbolpegpaaProg
import Derived.WalkKit
import Derived.WalkLawsBesides
import Derived.WalkSpells
import Derived.Test.YtifppmbolpegpaaC15D
import Derived.Test.YtifppmbolpegpaaC15L
import Derived.Test.YtifppmbolpegpaaC15M
import Derived.Test.YtifppmbolpegpaaC15P

namespace Go.Proofs.Ytifppmbolpegpaa
open Go.RowKit Go.Sky

theorem infoRec : (Try.prog.info? 50).map (fun i => (i.zero, i.size, i.bytes)) = some (some (.agg #[.string .empty, .int .i64 0, .string .empty]), 3, 40) := by kernel_rfl

set_option maxHeartbeats 400000 in
theorem copyRecs_any (A : Option Addr) (n cap : Nat) (xs : List Sky.Rec) (w : World) (hn : n ≤ 1000000) (hr : Rd w 3 encRec A n xs) :
    Calls Try.prog 19 #[.slice A n cap] w fun e w' => ∃ A' cap', e = .returned (.slice A' n cap') ∧ Sky.Own w' w.heap.size 50 3 encRec A' n cap' xs ∧ New w w' := by
  obtain ⟨i0, hi, hz0, hz1, hz2⟩ := info_parts infoRec
  have HR := Lib.hid hr; clear hr
  go_enter Try.func19, Try.ntmps19
  go_wp2_with (at_builtin; refine wpList_pour _ rfl _ _ 41 rfl 50 i0 _ 3 40 Try.underlying41 hi hz0 hz1 hz2 rfl (by omega) w.heap.size encRec _ 0 0 [] rfl (by exact Sky.Own.empty _ _ _ _ encRec_len _ (by simp) (by simp)) A n cap xs rfl (by exact HR.out.keep ((New.refl _).alloc _)) encRec_one (by unfold maxLen; omega) (by omega) (by simp) ?_; intro A2 cap2 w2 hown2 hg2 hN2)
  go_ret
  refine ⟨A2, cap2, rfl, ?_, hN2 w ((New.refl w).alloc _) (Nat.le_refl _)⟩
  rw [Nat.zero_add] at hown2
  exact hown2

theorem eql_rec_d (n : Nat) (x : Sky.Rec) (W : World) : (Op.equalIn (n + 2) 50 (.agg #[.string x.n, .int .i64 x.v, .string x.b]) (.agg #[.string x.n, .int .i64 x.v, .string x.b])).run Try.prog W = .ok true W := by
  have u := Try.underlying50
  have u3 := Try.underlying3
  have z3 := Try.sizeOf3
  have a3 := Try.isAgg3
  have u9 := Try.underlying9
  have z9 := Try.sizeOf9
  have a9 := Try.isAgg9
  rw [Op.equalIn]
  simp [run_underlying u, part, go_sem, a3, u3, a9, u9, z3, z9]
theorem eql_rec (x : Sky.Rec) (W : World) : (Op.equalIn 10000 50 (.agg #[.string x.n, .int .i64 x.v, .string x.b]) (.agg #[.string x.n, .int .i64 x.v, .string x.b])).run Try.prog W = .ok true W := eql_rec_d 9998 x W
theorem guard_rec : (Try.prog).eqGuardType (Try.prog).depth 50 = false := by kernel_rfl

set_option maxRecDepth 100000 in
set_option maxHeartbeats 1000000 in
theorem recs_like (A B : Option Addr) (n c1 c2 : Nat) (xs : List Sky.Rec) (w : World) (hn : n ≤ 1000000) (hr : Rd w 3 encRec A n xs) (hs : Rd w 3 encRec B n xs) :
    Calls Try.prog 22 #[.slice A n c1, .slice B n c2] w fun e w' => e = .returned (.bool true) ∧ New w w' := by
  have HR := Lib.hid hr; clear hr
  have HS := Lib.hid hs; clear hs
  have heq := eql_rec
  have hgu := guard_rec
  have d0 : ((n : Int) != (n : Int)) = false := by simp
  go_enter Try.func22, Try.ntmps22
  go_wp2
  go_loopw [5] (fun i wr => ∃ k : Nat, k ≤ n ∧ i = .int .i64 (k : Int) ∧ New w wr) (fun i _ => n - (intOf i).toNat)
  case atStart => exact ⟨0, by omega, rfl, New.refl _⟩
  case round =>
    obtain ⟨k, hk, rfl, hN⟩ := hrel
    by_cases hlt : k < n
    · obtain ⟨b, o, x, rfl, hb, hx, hc⟩ := (HR.out.keep hN).at_ hlt
      obtain ⟨b', o', x', rfl, hb', hx', hc'⟩ := (HS.out.keep hN).at_ hlt
      rw [hx] at hx'
      injection hx' with hx'
      subst hx'
      have g0 := hc 0 _ rfl
      have g1 := hc 1 _ rfl
      have g2 := hc 2 _ rfl
      have k0 := hc' 0 _ rfl
      have k1 := hc' 1 _ rfl
      have k2 := hc' 2 _ rfl
      simp only [Nat.add_zero] at g0 k0
      have i0 : (0 : Int) ≤ (k : Int) := by omega
      have i1 : (k : Int) < (n : Int) := by omega
      clear hx hc hc'
      go_wp2
      (refine wp_region_new (by kernel_rfl) (by kernel_rfl) ?_; (repeat (go_big_quiet_step ((fail)))); refine wpQuiet_nil ?_)
      intro w2 n2
      go_wp2
      go_roundw
      case rel => exact ⟨k + 1, by omega, by go_num, hN.trans n2⟩
      case measure => simp [intOf]; omega
    · go_wp2
      go_ret
      exact ⟨rfl, hN⟩
end Go.Proofs.Ytifppmbolpegpaa

namespace Go.Proofs.Ytifppmbolpegpaa
open Go.RowKit Go.Sky

set_option maxRecDepth 100000 in
set_option maxHeartbeats 4000000 in
theorem recordsErr_any (A : Option Addr) (n cap : Nat) (q : List Sky.Rec) (w : World) (hn : n ≤ 1000000) (hx : ∀ x ∈ q, x.n.size ≤ 1000) (hr : Rd w 3 encRec A n q) :
    Calls Try.prog 46 #[.slice A n cap] w fun e w' => e = .returned (.int .i64 (recsS q)) ∧ New w w' := by
  have HL := Lib.hid hr.len
  have HR := Lib.hid hr; clear hr
  have HX := Lib.hid hx; clear hx
  by_cases h30 : 30 < n
  · have HV := Lib.hid (show recsS q = 8 by unfold recsS; rw [if_pos (by rw [HL.out]; exact h30)])
    go_enter Try.func46, Try.ntmps46
    go_wp2_with fail
    go_ret
    exact ⟨by rw [HV.out]; rfl, New.refl _⟩
  have HV := Lib.hid (show recsS q = recsFrom (q.drop 0) by unfold recsS; rw [if_neg (by rw [HL.out]; exact h30)]; rfl)
  go_enter Try.func46, Try.ntmps46
  go_wp2_with fail
  go_loopw [4, 5, 11] (fun _ _ i wr => ∃ k : Nat, k ≤ n ∧ i = .int .i64 (k : Int) ∧ Hid (recsS q = recsFrom (q.drop k)) ∧ New w wr) (fun _ _ i _ => n - (intOf i).toNat)
  case atStart => exact ⟨0, by omega, rfl, HV, New.refl _⟩
  case round =>
    clear HV
    obtain ⟨k, hk, rfl, HF, hN⟩ := hrel
    by_cases hlt : k < n
    · obtain ⟨b, o, x, rfl, hb, hx, hc⟩ := (HR.out.keep hN).at_ hlt
      have g0 := hc 0 _ rfl
      have g1 := hc 1 _ rfl
      have g2 := hc 2 _ rfl
      simp only [Nat.add_zero] at g0
      have HST := Lib.hid (HF.out.trans (recsFrom_step hx))
      have HXS := Lib.hid (HX.out x (List.mem_of_getElem? hx))
      have HE := Lib.hid (show recE x = firstE [errU (nameS x.n.data.toList) 4, errU (tick x.v) 2, errU (decide ((x.b.size : Int) ≤ 1000)) 8] from rfl)
      clear HF hx hc
      obtain ⟨E, hE⟩ : ∃ E, recE x = E := ⟨_, rfl⟩
      rw [hE] at HST HE
      clear hE
      have hz : (E = 0 ∧ (E != 0) = false) ∨ (E ≠ 0 ∧ (E != 0) = true) := by
        by_cases h : E = 0
        · exact .inl ⟨h, by simpa using h⟩
        · exact .inr ⟨h, by simpa using h⟩
      rcases hz with ⟨hz0, b2⟩ | ⟨hz0, b2⟩
      all_goals
        have HZ := Lib.hid hz0
        clear hz0
        go_wp2_with fail
        (refine wp_region_tail 13 (by kernel_rfl) (by kernel_rfl) ?_; simp only [List.take_succ_cons, List.take_zero, List.drop_succ_cons, List.drop_zero]; (repeat (go_big_quiet_step (((first | (go_at_call 81; exact quiet_new (isName_any _ _ HXS.out)) | exact quiet_same (isTick_any _ _) | exact quiet_same (unless_any _ _ _)))))); refine wpQuiet_nil ?_)
        intro w1 n1
        go_wp2_with (go_at_call 45; refine (first_any _ 3 3 [_, _, _] _ (by omega) rfl (cells_new _ _ _ _ (by simp) _ rfl)).mono ?_; rintro e w' ⟨rfl, rfl⟩; rw [← HE.out])
      · go_roundw
        case rel => exact ⟨k + 1, by omega, by go_num, by unfold Hid; rw [HST.out, if_pos HZ.out], ((hN.alloc _).trans n1).alloc _⟩
        case measure => simp [intOf]; omega
      · go_ret
        exact ⟨by rw [HST.out, if_neg HZ.out]; rfl, ((hN.alloc _).trans n1).alloc _⟩
    · go_wp2_with fail
      go_ret
      exact ⟨by rw [HF.out, List.drop_of_length_le (by rw [HL.out]; omega)]; rfl, hN⟩
end Go.Proofs.Ytifppmbolpegpaa

namespace Go.Proofs.Ytifppmbolpegpaa
open Go.RowKit Go.Sky

theorem recE_cases (x : Sky.Rec) : (nameS x.n.data.toList = false ∧ recE x = 4) ∨ (nameS x.n.data.toList = true ∧ tick x.v = false ∧ recE x = 2) ∨ (nameS x.n.data.toList = true ∧ tick x.v = true ∧ (1000 < (x.b.size : Int)) ∧ recE x = 8) ∨ (nameS x.n.data.toList = true ∧ tick x.v = true ∧ ¬ (1000 < (x.b.size : Int)) ∧ recE x = 0) := by
  unfold recE
  cases nameS x.n.data.toList
  · left; exact ⟨rfl, rfl⟩
  · cases tick x.v
    · right; left; exact ⟨rfl, rfl, rfl⟩
    · right; right
      by_cases h : 1000 < (x.b.size : Int)
      · left; exact ⟨rfl, rfl, h, by rw [decide_eq_false (by omega)]; rfl⟩
      · right; exact ⟨rfl, rfl, h, by rw [decide_eq_true (by omega)]; rfl⟩

set_option maxRecDepth 100000 in
set_option maxHeartbeats 4000000 in
theorem refRecordsErr_all (A : Option Addr) (n cap : Nat) (q : List Sky.Rec) (w : World) (hn : n ≤ 1000000) (hr : Rd w 3 encRec A n q) :
    Calls Try.prog 20 #[.slice A n cap] w fun e w' => e = .returned (.int .i64 (recsS q)) ∧ New w w' := by
  have HL := Lib.hid hr.len
  have HR := Lib.hid hr; clear hr
  by_cases h30 : 30 < n
  · have HV := Lib.hid (show recsS q = 8 by unfold recsS; rw [if_pos (by rw [HL.out]; exact h30)])
    go_enter Try.func20, Try.ntmps20
    go_wp2_with fail
    go_ret
    exact ⟨by rw [HV.out]; rfl, New.refl _⟩
  have HV := Lib.hid (show recsS q = recsFrom (q.drop 0) by unfold recsS; rw [if_neg (by rw [HL.out]; exact h30)]; rfl)
  go_enter Try.func20, Try.ntmps20
  go_wp2_with fail
  go_loopw [3] (fun i wr => ∃ k : Nat, k ≤ n ∧ i = .int .i64 (k : Int) ∧ Hid (recsS q = recsFrom (q.drop k)) ∧ New w wr) (fun i _ => n - (intOf i).toNat)
  case atStart => exact ⟨0, by omega, rfl, HV, New.refl _⟩
  case round =>
    clear HV
    obtain ⟨k, hk, rfl, HF, hN⟩ := hrel
    by_cases hlt : k < n
    · obtain ⟨b, o, x, rfl, hb, hx, hc⟩ := (HR.out.keep hN).at_ hlt
      have g0 := hc 0 _ rfl
      have g1 := hc 1 _ rfl
      have g2 := hc 2 _ rfl
      simp only [Nat.add_zero] at g0
      have HST := Lib.hid (HF.out.trans (recsFrom_step hx))
      have i0 : (0 : Int) ≤ (k : Int) := by omega
      have i1 : (k : Int) < (n : Int) := by omega
      clear HF hx hc
      rcases recE_cases x with ⟨h1, h4⟩ | ⟨h1, h2, h4⟩ | ⟨h1, h2, h3, h4⟩ | ⟨h1, h2, h3, h4⟩
      all_goals
        have HN := Lib.hid h1
        rw [h4] at HST
        clear h1 h4
        go_wp2_with (first | (go_at_call 55; refine (bIsName_all _ _).mono ?_; rintro e w' ⟨rfl, rfl⟩; rw [HN.out]) | (go_at_call 56; refine (bIsTick_is _ _ _ (by assumption)).mono ?_; rintro e w' ⟨rfl, rfl⟩))
      · go_ret
        exact ⟨by rw [HST.out]; rfl, hN⟩
      · go_ret
        exact ⟨by rw [HST.out]; rfl, hN⟩
      · go_ret
        exact ⟨by rw [HST.out]; rfl, hN⟩
      · go_roundw
        case rel => exact ⟨k + 1, by omega, by go_num, by unfold Hid; rw [HST.out]; rfl, hN⟩
        case measure => simp [intOf]; omega
    · go_wp2_with fail
      go_ret
      exact ⟨by rw [HF.out, List.drop_of_length_le (by rw [HL.out]; omega)]; rfl, hN⟩
theorem refRecordsErr_any (A : Option Addr) (n cap : Nat) (q : List Sky.Rec) (w : World) (hn : n ≤ 1000000) (_hx : ∀ x ∈ q, x.n.size ≤ 1000) (hr : Rd w 3 encRec A n q) :
    Calls Try.prog 20 #[.slice A n cap] w fun e w' => e = .returned (.int .i64 (recsS q)) ∧ New w w' := refRecordsErr_all A n cap q w hn hr
end Go.Proofs.Ytifppmbolpegpaa

namespace Go.Proofs.Ytifppmbolpegpaa
open Go.RowKit Go.Sky

theorem fewX_cases (x : Sky.Rec) : ((30 < (x.n.size : Int)) ∧ fewX x = false) ∨
    (¬ (30 < (x.n.size : Int)) ∧ ¬ (100 < (x.b.size : Int)) ∧ ¬ (1005 < (x.b.size : Int)) ∧ fewX x = true) ∨
    (¬ (30 < (x.n.size : Int)) ∧ (100 < (x.b.size : Int)) ∧ ((x.b.size : Int) ≤ 1000) ∧ fewX x = false) ∨
    (¬ (30 < (x.n.size : Int)) ∧ (100 < (x.b.size : Int)) ∧ ¬ ((x.b.size : Int) ≤ 1000) ∧ (1005 < (x.b.size : Int)) ∧ fewX x = false) ∨
    (¬ (30 < (x.n.size : Int)) ∧ (100 < (x.b.size : Int)) ∧ ¬ ((x.b.size : Int) ≤ 1000) ∧ ¬ (1005 < (x.b.size : Int)) ∧ fewX x = true) := by
  unfold fewX
  by_cases h1 : 30 < (x.n.size : Int)
  · left; exact ⟨h1, by rw [decide_eq_false (by omega)]; rfl⟩
  · right
    rw [decide_eq_true (show x.n.size ≤ 30 by omega)]
    by_cases h2 : 100 < (x.b.size : Int)
    · right
      by_cases h3 : (x.b.size : Int) ≤ 1000
      · left; exact ⟨h1, h2, h3, by rw [decide_eq_false (by omega), decide_eq_false (by omega)]; rfl⟩
      · right
        by_cases h4 : 1005 < (x.b.size : Int)
        · left; exact ⟨h1, h2, h3, h4, by rw [decide_eq_false (by omega), decide_eq_false (by omega)]; rfl⟩
        · right; exact ⟨h1, h2, h3, h4, by rw [decide_eq_false (by omega), decide_eq_true (by omega)]; rfl⟩
    · left; exact ⟨h1, h2, by omega, by rw [decide_eq_true (by omega)]; rfl⟩

theorem few_no {q : List Sky.Rec} {x : Sky.Rec} (h : x ∈ q) (hx : fewX x = false) : q.all fewX = false := by
  rw [List.all_eq_false]
  exact ⟨x, h, by rw [hx]; decide⟩

set_option maxRecDepth 100000 in
set_option maxHeartbeats 4000000 in
theorem fewRecords_any (A : Option Addr) (n cap : Nat) (q : List Sky.Rec) (w : World) (hr : Rd w 3 encRec A n q) :
    Calls Try.prog 17 #[.slice A n cap] w fun e w' => e = .returned (.bool (fewR q)) ∧ w = w' := by
  have HL := Lib.hid hr.len
  have HR := Lib.hid hr; clear hr
  by_cases h32 : 32 < n
  · have HV := Lib.hid (show fewR q = false by unfold fewR; rw [decide_eq_false (by rw [HL.out]; omega)]; rfl)
    go_enter Try.func17, Try.ntmps17
    go_wp2_with fail
    go_ret
    exact ⟨by rw [HV.out]; rfl, rfl⟩
  have HV := Lib.hid (show fewR q = q.all fewX by unfold fewR; rw [decide_eq_true (by rw [HL.out]; omega)]; rfl)
  go_enter Try.func17, Try.ntmps17
  go_wp2_with fail
  go_loopw [3] (fun i wr => ∃ k : Nat, k ≤ n ∧ i = .int .i64 (k : Int) ∧ Hid ((q.take k).all fewX = true) ∧ wr = w) (fun i _ => n - (intOf i).toNat)
  case atStart => exact ⟨0, by omega, rfl, rfl, rfl⟩
  case round =>
    obtain ⟨k, hk, rfl, HF, rfl⟩ := hrel
    by_cases hlt : k < n
    · obtain ⟨b, o, x, rfl, hb, hx, hc⟩ := HR.out.at_ hlt
      have g0 := hc 0 _ rfl
      have g1 := hc 1 _ rfl
      have g2 := hc 2 _ rfl
      simp only [Nat.add_zero] at g0
      have HST := Lib.hid (show (q.take (k + 1)).all fewX = ((q.take k).all fewX && fewX x) by rw [take_snoc q k x hx, List.all_append]; simp)
      have HMEM := Lib.hid (List.mem_of_getElem? hx)
      have i0 : (0 : Int) ≤ (k : Int) := by omega
      have i1 : (k : Int) < (n : Int) := by omega
      clear hx hc
      rcases fewX_cases x with ⟨h1, h4⟩ | ⟨h1, h2, h3, h4⟩ | ⟨h1, h2, h3, h4⟩ | ⟨h1, h2, h3, h5, h4⟩ | ⟨h1, h2, h3, h5, h4⟩
      all_goals
        have HQ := Lib.hid h4
        clear h4
        go_wp2_with fail
      · go_ret
        exact ⟨by rw [HV.out, few_no HMEM.out HQ.out]; rfl, rfl⟩
      · go_roundw
        case rel => exact ⟨k + 1, by omega, by go_num, by unfold Hid; rw [HST.out, HF.out, HQ.out]; rfl, trivial⟩
        case measure => simp [intOf]; omega
      · go_ret
        exact ⟨by rw [HV.out, few_no HMEM.out HQ.out]; rfl, rfl⟩
      · go_ret
        exact ⟨by rw [HV.out, few_no HMEM.out HQ.out]; rfl, rfl⟩
      · go_roundw
        case rel => exact ⟨k + 1, by omega, by go_num, by unfold Hid; rw [HST.out, HF.out, HQ.out]; rfl, trivial⟩
        case measure => simp [intOf]; omega
    · have HW := Lib.hid (show fewR q = true by
        rw [HV.out]
        have h := HF.out
        rw [List.take_of_length_le (by rw [HL.out]; omega)] at h
        exact h)
      go_wp2_with fail
      go_ret
      exact ⟨by rw [HW.out]; rfl, rfl⟩
end Go.Proofs.Ytifppmbolpegpaa

namespace Go.Proofs.Ytifppmbolpegpaa
open Go.RowKit Go.Sky

set_option maxRecDepth 100000 in
set_option maxHeartbeats 1000000 in
theorem nameClos (x y : Sky.Rec) (w : World) :
    Calls Try.prog 54 #[.agg #[.string x.n, .int .i64 x.v, .string x.b], .agg #[.string y.n, .int .i64 y.v, .string y.b]] w fun e w' => e = .returned (.bool (x.n.toList == y.n.toList)) ∧ New w w' := by
  have N0 := ((New.refl w).alloc (.cells #[.string x.n, .int .i64 x.v, .string x.b] 50)).alloc (.cells #[.string y.n, .int .i64 y.v, .string y.b] 50)
  go_enter Try.func54, Try.ntmps54
  go_wp2
  go_ret
  exact ⟨rfl, N0⟩

theorem gtr_dec (s t : ByteArray) : (!Op.bytesLess s.toList t.toList && !(s.toList == t.toList)) = decide (t.toList < s.toList) := by
  rw [less_dec]
  by_cases h : s.toList < t.toList
  · rw [decide_eq_true h, decide_eq_false (List.lt_asymm h)]; rfl
  · rw [decide_eq_false h]
    by_cases k : t.toList < s.toList
    · rw [decide_eq_true k]
      have : (s.toList == t.toList) = false := by
        rw [beq_eq_false_iff_ne]
        intro e
        rw [e] at k
        exact List.lt_irrefl _ k
      rw [this]; rfl
    · rw [decide_eq_false k]
      have : (s.toList == t.toList) = true := by
        rw [beq_iff_eq]
        exact List.le_antisymm (List.not_lt.1 k) (List.not_lt.1 h)
      rw [this]; rfl

set_option maxRecDepth 100000 in
set_option maxHeartbeats 1000000 in
theorem newer_any (x y : Sky.Rec) (w : World) :
    Calls Try.prog 57 #[.agg #[.string x.n, .int .i64 x.v, .string x.b], .agg #[.string y.n, .int .i64 y.v, .string y.b]] w fun e w' => e = .returned (.bool (newX x y)) ∧ New w w' := by
  have N0 := ((New.refl w).alloc (.cells #[.string x.n, .int .i64 x.v, .string x.b] 50)).alloc (.cells #[.string y.n, .int .i64 y.v, .string y.b] 50)
  have HG := Lib.hid (gtr_dec x.b y.b)
  rcases (show y.v < x.v ∨ (¬ y.v < x.v ∧ x.v = y.v) ∨ (¬ y.v < x.v ∧ ¬ x.v = y.v) by omega) with h | ⟨h, h2⟩ | ⟨h, h2⟩
  · have HV := Lib.hid (show newX x y = true by unfold newX; rw [decide_eq_true h]; rfl)
    go_enter Try.func57, Try.ntmps57
    go_wp2
    go_ret
    exact ⟨by rw [HV.out]; rfl, N0⟩
  · have HV := Lib.hid (show newX x y = (!Op.bytesLess x.b.toList y.b.toList && !(x.b.toList == y.b.toList)) by rw [HG.out]; unfold newX; rw [decide_eq_false h, beq_iff_eq.2 h2]; rfl)
    have d2 : (x.v == y.v) = true := beq_iff_eq.2 h2
    clear h2 HG
    go_enter Try.func57, Try.ntmps57
    go_wp2
    go_ret
    exact ⟨by rw [HV.out]; rfl, N0⟩
  · have d2 : (x.v == y.v) = false := by rw [beq_eq_false_iff_ne]; exact h2
    have HV := Lib.hid (show newX x y = false by unfold newX; rw [decide_eq_false h, d2]; rfl)
    clear h2 HG
    go_enter Try.func57, Try.ntmps57
    go_wp2
    go_ret
    exact ⟨by rw [HV.out]; rfl, N0⟩
end Go.Proofs.Ytifppmbolpegpaa
