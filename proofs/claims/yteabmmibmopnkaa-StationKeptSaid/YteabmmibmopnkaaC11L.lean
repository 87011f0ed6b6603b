/- Contracts: the reference of queues: before, OrderOf.
   Contracts: the reference's OrderOf.
   The walk of StationQueues.
   Contracts: the orders, owned; SentBy.
   Contracts: symMerge where one element lies on the right.
   Contracts: the stable sort at 21; order at 21 or fewer.
   Contracts: total, of the program and of the reference.
   Contracts: Clone at items; the reference's PutErr; rows of texts.
   Contracts: rows of texts, rows of items, each against its like.
   Contracts: the reference of what is sent: QueueErr, LinkErr, SentBy. -/
import Derived.BigQuiet
import Derived.BigRegion
import Derived.Deep.AppendLies
import Derived.Deep.Draws
import Derived.Deep.Quiet
import Derived.Deep.QuietTactic
import Derived.Laws.BitsAllLaws
import Derived.Lib.Hide
import Derived.OrdersIn
import Derived.OwnWalkIn
import Derived.RangeFuncCalls
import Derived.StillTail
import Derived.TacticsIn
import Derived.Test.YteabmmibmopnkaaProg
import Derived.WalkKit
import Derived.WalkLawsBesides
import Derived.WalkSpells
import Derived.Test.YteabmmibmopnkaaC11B
import Derived.Test.YteabmmibmopnkaaC11G
import Derived.Test.YteabmmibmopnkaaC11I
import Derived.Test.YteabmmibmopnkaaC11J

namespace Go.Proofs.Yteabmmibmopnkaa
open Go.RowKit Go.Sky

theorem bef_of {q : List Sky.Item} {a b : Nat} {x y : Sky.Item} (hx : q[a]? = some x) (hy : q[b]? = some y) : befQ q a b = if x.p ≠ y.p then decide (y.p < x.p) else if x.t ≠ y.t then decide (x.t < y.t) else decide (a < b) := by
  unfold befQ
  rw [hx, hy]
  rfl

set_option maxRecDepth 100000 in
set_option maxHeartbeats 4000000 in
theorem before_item (q : List Sky.Item) (A : Option Addr) (n cap a b : Nat) (w : World) (ha : a < n) (hb : b < n) (hn : n ≤ 1000000) (hr : Rd w 4 encM A n q) :
    Calls Try.prog 118 #[.slice A n cap, .int .i64 (a : Int), .int .i64 (b : Int)] w fun e w' => e = .returned (.bool (befQ q a b)) ∧ New w w' := by
  obtain ⟨ba, oa, x, rfl, hba, hx, hcx⟩ := hr.at_ ha
  obtain ⟨bb, ob, y, e, hbb, hy, hcy⟩ := hr.at_ hb
  injection e with e
  injection e with e1 e2
  subst e1 e2
  have x0 := hcx 0 _ rfl
  have x1 := hcx 1 _ rfl
  have x2 := hcx 2 _ rfl
  have x3 := hcx 3 _ rfl
  have y0 := hcy 0 _ rfl
  have y1 := hcy 1 _ rfl
  have y2 := hcy 2 _ rfl
  have y3 := hcy 3 _ rfl
  simp only [Nat.add_zero] at x0 y0
  have HV := Lib.hid (bef_of hx hy)
  have i0 : (0 : Int) ≤ (a : Int) := by omega
  have i1 : (a : Int) < (n : Int) := by omega
  have j0 : (0 : Int) ≤ (b : Int) := by omega
  have j1 : (b : Int) < (n : Int) := by omega
  clear hr hx hy hcx hcy hbb
  go_enter Try.func118, Try.ntmps118
  go_wp2
  refine wp_region_takes0 w (New.refl _) 8 4 #[true, true, true, true, true, true, true, true, false, false, false, false] (by kernel_rfl) (by kernel_rfl) (by kernel_rfl) (by kernel_rfl) (by kernel_rfl) (by kernel_rfl) ?_
  simp only [List.take_succ_cons, List.take_zero]
  (repeat (go_big_quiet_step ((fail))))
  refine wpQuiet_nil ?_
  intro W1 n1
  refine two_next 8 9 (by kernel_rfl) (new_plus n1) ?o1 ?o2
  case' o1 =>
    refine wpOpIn_list rfl ?_
    gi_wp2
    refine one_next 9 (by kernel_rfl) (new_plus (n1.alloc _)) (wpOpIn_list rfl ?_)
    gi_wp2
    refine one_next 10 (by kernel_rfl) (new_plus ((n1.alloc _).alloc _)) (wpOpIn_list rfl ?_)
    gi_wp2
    refine one_next 11 (by kernel_rfl) (new_plus ((n1.alloc _).alloc _)) (wpOpIn_list rfl ?_)
    gi_wp2
    have nn := (n1.alloc (.cells (encM x).toArray 44)).alloc (.cells (encM y).toArray 44)
    have b7 := (Bx.mk W1 44 (encM x).toArray).alloc (.cells (encM y).toArray 44)
    have b8 := Bx.mk_at (W1.alloc (.cells (encM x).toArray 44)) 44 (encM y).toArray (W1.heap.size + 1) (by simp)
    refine end_any (new_plus nn) (by kernel_rfl) ?_
    obtain ⟨W3, hW3⟩ : ∃ W3, (W1.alloc (.cells (encM x).toArray 44)).alloc (.cells (encM y).toArray 44) = W3 := ⟨_, rfl⟩
  case' o2 =>
    refine wpOpIn_list rfl ?_
    gi_wp2
    refine one_next 8 (by kernel_rfl) (new_plus (n1.alloc _)) (wpOpIn_list rfl ?_)
    gi_wp2
    refine one_next 10 (by kernel_rfl) (new_plus ((n1.alloc _).alloc _)) (wpOpIn_list rfl ?_)
    gi_wp2
    refine one_next 11 (by kernel_rfl) (new_plus ((n1.alloc _).alloc _)) (wpOpIn_list rfl ?_)
    gi_wp2
    have nn := (n1.alloc (.cells (encM y).toArray 44)).alloc (.cells (encM x).toArray 44)
    have b8 := (Bx.mk W1 44 (encM y).toArray).alloc (.cells (encM x).toArray 44)
    have b7 := Bx.mk_at (W1.alloc (.cells (encM y).toArray 44)) 44 (encM x).toArray (W1.heap.size + 1) (by simp)
    refine end_any (new_plus nn) (by kernel_rfl) ?_
    obtain ⟨W3, hW3⟩ : ∃ W3, (W1.alloc (.cells (encM y).toArray 44)).alloc (.cells (encM x).toArray 44) = W3 := ⟨_, rfl⟩
  all_goals
    rw [hW3] at nn b7 b8
    simp only [encM] at hW3
    rw [hW3]
    clear hW3
    have l7 := b7.lt
    have l8 := b8.lt
    have s1 : World.cell? _ _ = some (.int .i64 x.p) := b7.cell 1
    have s3 : World.cell? _ _ = some (.int .i64 x.t) := b7.cell 3
    have t1 : World.cell? _ _ = some (.int .i64 y.p) := b8.cell 1
    have t3 : World.cell? _ _ = some (.int .i64 y.t) := b8.cell 3
    clear b7 b8 x0 x1 x2 x3 y0 y1 y2 y3
    by_cases hp : x.p = y.p
    · have d1 : (x.p != y.p) = false := by simp [hp]
      have HV2 := Lib.hid (HV.out.trans (if_neg (fun h => h hp)))
      clear hp HV
      by_cases ht : x.t = y.t
      · have d2 : (x.t != y.t) = false := by simp [ht]
        have HV3 := Lib.hid (HV2.out.trans (if_neg (fun h => h ht)))
        clear ht HV2
        go_wp2
        go_ret
        exact ⟨by rw [HV3.out]; simp, nn⟩
      · have d2 : (x.t != y.t) = true := by simp [ht]
        have HV3 := Lib.hid (HV2.out.trans (if_pos ht))
        clear ht HV2
        go_wp2
        go_ret
        exact ⟨by rw [HV3.out]; rfl, nn⟩
    · have d1 : (x.p != y.p) = true := by simp [hp]
      have HV2 := Lib.hid (HV.out.trans (if_pos hp))
      clear hp HV
      go_wp2
      go_ret
      exact ⟨by rw [HV2.out]; rfl, nn⟩
end Go.Proofs.Yteabmmibmopnkaa

namespace Go.Proofs.Yteabmmibmopnkaa
open Go.RowKit Go.Sky

set_option maxRecDepth 100000 in
set_option maxHeartbeats 4000000 in
theorem refOrder_any (q : List Sky.Item) (A : Option Addr) (n cap : Nat) (w : World) (hn : n ≤ 1000) (hr : Rd w 4 encM A n q) :
    Calls Try.prog 68 #[.slice A n cap] w fun e w' => ∃ A' c', e = .returned (.slice A' n c') ∧ Rd w' 1 encI A' n (mapN (sortQ q n)) ∧ New w w' := by
  obtain ⟨i0, hi, hz0, hz1, hz2⟩ := info_parts infoInt
  have HR := Lib.hid hr; clear hr
  go_enter Try.func68, Try.ntmps68
  go_wp2_with (refine wpList_mk _ rfl _ _ 58 rfl w.heap.size 3 i0 _ Try.underlying58 hi hz0 hz1 rfl encN (fun _ => rfl) 0 rfl n rfl rfl (by rw [hz2]; omega) (by unfold maxLen; omega) (Nat.le_refl _) ?_; intro w2 hown n2 hlt2)
  have hgb : w.heap.size ≤ w.heap.size := Nat.le_refl _
  obtain ⟨g, hg⟩ : ∃ g, w.heap.size = g := ⟨_, rfl⟩
  rw [hg] at hown hlt2 hgb ⊢
  have HGE := Lib.hid (show w.heap.size = g from hg)
  clear hg hgb
  go_loopw [4] (fun i wr => ∃ (k : Nat) (xs : List Nat), k ≤ n ∧ i = .int .i64 (k : Int) ∧ Sky.Own wr g 3 1 encN (some ⟨g, 0, none⟩) n n xs ∧ Hid (Placed q n k xs) ∧ New w wr) (fun i _ => n - (intOf i).toNat)
  case atStart => exact ⟨0, _, by omega, rfl, hown, Lib.hid ⟨by simp, fun i hi => absurd hi (by omega)⟩, n2⟩
  case round =>
    clear hown hlt2 n2
    obtain ⟨k, xs, hk, rfl, hown, HP, hN⟩ := hrel
    by_cases hlt : k < n
    · go_wp2
      go_loopw [5, 6] (fun c i wx => ∃ (m : Nat), m ≤ n ∧ i = .int .i64 (m : Int) ∧ c = .int .i64 ((rankTo q k m : Nat) : Int) ∧ Sky.Own wx g 3 1 encN (some ⟨g, 0, none⟩) n n xs ∧ New w wx) (fun _ i _ => n - (intOf i).toNat)
      case atStart => exact ⟨0, by omega, rfl, rfl, hown, hN⟩
      case round =>
        clear hown hN
        obtain ⟨m, hm, rfl, rfl, hown, hN⟩ := hrel
        by_cases hmn : m < n
        · have HST := Lib.hid (rank_step q k m)
          have hle := rank_le q k m
          obtain ⟨r, hr⟩ : ∃ r, rankTo q k m = r := ⟨_, rfl⟩
          rw [hr] at HST hle ⊢
          clear hr
          obtain ⟨bq, hbq⟩ : ∃ c, befQ q m k = c := ⟨_, rfl⟩
          have HB := Lib.hid hbq
          clear hbq
          go_wp2_with fail
          refine (before_item q A n cap m k _ hmn hlt (by omega) (HR.out.keep hN)).mono ?_
          rw [HB.out]
          rintro e w3 ⟨rfl, n3⟩
          cases bq
          · have HV := Lib.hid (show rankTo q k (m + 1) = r by rw [HST.out, HB.out]; rfl)
            go_wp2
            go_roundw
            case rel => exact ⟨m + 1, by omega, by go_num, by rw [HV.out], hown.keep n3, hN.trans n3⟩
            case measure => simp [intOf]; omega
          · have HV := Lib.hid (show rankTo q k (m + 1) = r + 1 by rw [HST.out, HB.out]; rfl)
            go_wp2
            go_roundw
            case rel => exact ⟨m + 1, by omega, by go_num, by rw [HV.out]; go_num, hown.keep n3, hN.trans n3⟩
            case measure => simp [intOf]; omega
        · obtain rfl : m = n := by omega
          have HSTP := Lib.hid (placed_step HP.out hlt)
          have hrk := (sort_rank q m k hlt).1
          obtain ⟨r, hr⟩ : ∃ r, rankTo q k m = r := ⟨_, rfl⟩
          rw [hr] at HSTP hrk ⊢
          clear hr
          have hxl := HP.out.1
          obtain ⟨x0, hx0⟩ : ∃ x0, xs[r]? = some x0 := ⟨_, List.getElem?_eq_getElem (by omega)⟩
          have cr := hown.cell1 r x0 _ hx0 rfl
          have fr := hown.free r
          have HO2 := Lib.hid (hown.set1 r k (.int .i64 (k : Int)) hrk rfl)
          have HN2 := Lib.hid (hN.setCell (p := ⟨g, r, none⟩) (by rw [HGE.out]; exact Nat.le_refl _) (.int .i64 (k : Int)))
          clear hxl hown hN hx0
          go_wp2
          go_roundw
          case rel => exact ⟨k + 1, _, by omega, by go_num, HO2.out, HSTP, HN2.out⟩
          case measure => simp [intOf]; omega
    · obtain rfl : k = n := by omega
      have HV := Lib.hid (placed_end HP.out)
      go_wp2
      go_ret
      exact ⟨_, _, rfl, by rw [← HV.out]; exact rdN hown.rd, hN⟩
end Go.Proofs.Yteabmmibmopnkaa

namespace Go.Proofs.Yteabmmibmopnkaa
open Go.RowKit Go.Sky

theorem fewI_yes {n : Nat} {q : List Sky.Item} (h : fewI n q = true) : n ≤ 22 ∧ ∀ x ∈ q, x.n.size ≤ 30 := by
  unfold fewI at h
  rw [Bool.and_eq_true, List.all_eq_true] at h
  exact ⟨of_decide_eq_true h.1, fun x hx => of_decide_eq_true (h.2 x hx)⟩

end Go.Proofs.Yteabmmibmopnkaa

namespace Go.Proofs.Yteabmmibmopnkaa
open Go.RowKit Go.Sky

set_option maxRecDepth 100000 in
set_option maxHeartbeats 4000000 in
theorem orderOwn_any (q : List Sky.Item) (A : Option Addr) (n cap : Nat) (w : World) (hn : n ≤ 20) (hr : Rd w 4 encM A n q) :
    Calls Try.prog 63 #[.slice A n cap] w fun e w' => ∃ A' c', e = .returned (.slice A' n c') ∧ Sky.Own w' (w.heap.size + 1) 3 1 encN A' n c' (sortQ q n) ∧ New w w' := by
  obtain ⟨i0, hi, hz0, hz1, hz2⟩ := info_parts infoInt
  have HR := Lib.hid hr; clear hr
  have HG := Lib.hid (enters_go (f := 117) Try.func117 (by kernel_rfl) rfl)
  have b0 := Bx.mk w 42 #[.slice A n cap]
  have hN0 := (New.refl w).alloc (.cells #[.slice A n cap] 42)
  have c0 : World.cell? _ ⟨w.heap.size, 0, none⟩ = some (.slice A n cap) := b0.cell 0
  have l0 := b0.lt
  go_enter Try.func63, Try.ntmps63
  go_wp2
  go_loopw [3, 4, 7] (fun v _ i wr => ∃ (k : Nat) (A' : Option Addr) (c' : Nat), k ≤ n ∧ i = .int .i64 (k : Int) ∧ v = .slice A' k c' ∧ Sky.Own wr (w.heap.size + 1) 3 1 encN A' k c' (List.range k) ∧ New w wr ∧ Bx wr w.heap.size 42 #[.slice A n cap]) (fun _ _ i _ => n - (intOf i).toNat)
  case atStart => exact ⟨0, none, 0, by omega, rfl, rfl, Own.nil _ _ _ _ encN_len, hN0, b0⟩
  case round =>
    clear b0 hN0 c0 l0
    obtain ⟨k, A', c', hk, rfl, rfl, hown, hN, b1⟩ := hrel
    by_cases hlt : k < n
    · have hks := b1.lt
      go_wp2_with (at_builtin; refine wpList_push _ rfl _ _ 58 rfl 3 i0 _ 1 8 Try.underlying58 hi hz0 hz1 hz2 rfl (by omega) (w.heap.size + 1) encN A' k c' _ rfl (by exact hown.alloc _) _ 1 1 [k] rfl rfl (by omega) (by exact cells_new _ _ _ _ (by simp) _ rfl) encN_one (by unfold maxLen; omega) (by omega) (by simp; omega) ?_; intro g cap2 w4 hown4 hg4 hat4 hb4 hlt4 hN4)
      have b4 := (b1.alloc (.cells #[.int .i64 (k : Int)] 3)).grown hg4 (fun e => by
        rcases hown.form with ⟨h0, _⟩ | ⟨g', h0, hge, _⟩
        · rw [h0] at e; cases e
        · rw [h0] at e
          simp at e
          omega)
      go_roundw
      case rel => exact ⟨k + 1, _, cap2, by omega, by go_num, rfl, by rw [List.range_succ]; exact hown4, (hN.alloc _).grownOwn (hown.alloc _) (by omega) hg4, b4⟩
      case measure => simp [intOf]; omega
    · obtain rfl : k = n := by omega
      have hsz := b1.lt
      have hNs := hN.size
      go_wp2_with fail
      refine (sortStable 117 _ q A' k c' (w.heap.size + 1) _ hn HG.out (fun i y hi hy W hW => ordClos q A k cap i y w.heap.size W hi hy (by omega) ((b1.below hW (by omega)).cell 0) (HR.out.keep (hN.trans' hW))) (by omega) hown).mono ?_
      rintro e w2 ⟨rfl, o2, hB⟩
      go_wp2
      go_ret
      exact ⟨A', c', rfl, o2, hN.trans' hB⟩

set_option maxRecDepth 100000 in
set_option maxHeartbeats 4000000 in
theorem refOrderOwn_any (q : List Sky.Item) (A : Option Addr) (n cap : Nat) (w : World) (hn : n ≤ 1000) (hr : Rd w 4 encM A n q) :
    Calls Try.prog 68 #[.slice A n cap] w fun e w' => ∃ A' c', e = .returned (.slice A' n c') ∧ Sky.Own w' w.heap.size 3 1 encN A' n c' (sortQ q n) ∧ New w w' := by
  obtain ⟨i0, hi, hz0, hz1, hz2⟩ := info_parts infoInt
  have HR := Lib.hid hr; clear hr
  go_enter Try.func68, Try.ntmps68
  go_wp2_with (refine wpList_mk _ rfl _ _ 58 rfl w.heap.size 3 i0 _ Try.underlying58 hi hz0 hz1 rfl encN (fun _ => rfl) 0 rfl n rfl rfl (by rw [hz2]; omega) (by unfold maxLen; omega) (Nat.le_refl _) ?_; intro w2 hown n2 hlt2)
  have hgb : w.heap.size ≤ w.heap.size := Nat.le_refl _
  obtain ⟨g, hg⟩ : ∃ g, w.heap.size = g := ⟨_, rfl⟩
  rw [hg] at hown hlt2 hgb ⊢
  have HGE := Lib.hid (show w.heap.size = g from hg)
  clear hg hgb
  go_loopw [4] (fun i wr => ∃ (k : Nat) (xs : List Nat), k ≤ n ∧ i = .int .i64 (k : Int) ∧ Sky.Own wr g 3 1 encN (some ⟨g, 0, none⟩) n n xs ∧ Hid (Placed q n k xs) ∧ New w wr) (fun i _ => n - (intOf i).toNat)
  case atStart => exact ⟨0, _, by omega, rfl, hown, Lib.hid ⟨by simp, fun i hi => absurd hi (by omega)⟩, n2⟩
  case round =>
    clear hown hlt2 n2
    obtain ⟨k, xs, hk, rfl, hown, HP, hN⟩ := hrel
    by_cases hlt : k < n
    · go_wp2
      go_loopw [5, 6] (fun c i wx => ∃ (m : Nat), m ≤ n ∧ i = .int .i64 (m : Int) ∧ c = .int .i64 ((rankTo q k m : Nat) : Int) ∧ Sky.Own wx g 3 1 encN (some ⟨g, 0, none⟩) n n xs ∧ New w wx) (fun _ i _ => n - (intOf i).toNat)
      case atStart => exact ⟨0, by omega, rfl, rfl, hown, hN⟩
      case round =>
        clear hown hN
        obtain ⟨m, hm, rfl, rfl, hown, hN⟩ := hrel
        by_cases hmn : m < n
        · have HST := Lib.hid (rank_step q k m)
          have hle := rank_le q k m
          obtain ⟨r, hr⟩ : ∃ r, rankTo q k m = r := ⟨_, rfl⟩
          rw [hr] at HST hle ⊢
          clear hr
          obtain ⟨bq, hbq⟩ : ∃ c, befQ q m k = c := ⟨_, rfl⟩
          have HB := Lib.hid hbq
          clear hbq
          go_wp2_with fail
          refine (before_item q A n cap m k _ hmn hlt (by omega) (HR.out.keep hN)).mono ?_
          rw [HB.out]
          rintro e w3 ⟨rfl, n3⟩
          cases bq
          · have HV := Lib.hid (show rankTo q k (m + 1) = r by rw [HST.out, HB.out]; rfl)
            go_wp2
            go_roundw
            case rel => exact ⟨m + 1, by omega, by go_num, by rw [HV.out], hown.keep n3, hN.trans n3⟩
            case measure => simp [intOf]; omega
          · have HV := Lib.hid (show rankTo q k (m + 1) = r + 1 by rw [HST.out, HB.out]; rfl)
            go_wp2
            go_roundw
            case rel => exact ⟨m + 1, by omega, by go_num, by rw [HV.out]; go_num, hown.keep n3, hN.trans n3⟩
            case measure => simp [intOf]; omega
        · obtain rfl : m = n := by omega
          have HSTP := Lib.hid (placed_step HP.out hlt)
          have hrk := (sort_rank q m k hlt).1
          obtain ⟨r, hr⟩ : ∃ r, rankTo q k m = r := ⟨_, rfl⟩
          rw [hr] at HSTP hrk ⊢
          clear hr
          have hxl := HP.out.1
          obtain ⟨x0, hx0⟩ : ∃ x0, xs[r]? = some x0 := ⟨_, List.getElem?_eq_getElem (by omega)⟩
          have cr := hown.cell1 r x0 _ hx0 rfl
          have fr := hown.free r
          have HO2 := Lib.hid (hown.set1 r k (.int .i64 (k : Int)) hrk rfl)
          have HN2 := Lib.hid (hN.setCell (p := ⟨g, r, none⟩) (by rw [HGE.out]; exact Nat.le_refl _) (.int .i64 (k : Int)))
          clear hxl hown hN hx0
          go_wp2
          go_roundw
          case rel => exact ⟨k + 1, _, by omega, by go_num, HO2.out, HSTP, HN2.out⟩
          case measure => simp [intOf]; omega
    · obtain rfl : k = n := by omega
      have HV := Lib.hid (placed_end HP.out)
      go_wp2
      go_ret
      exact ⟨_, _, rfl, by rw [← HV.out, HGE.out]; exact hown, hN⟩

theorem queueErr_is (E : Int) (A : Option Addr) (n cap : Nat) (q : List Sky.Item) (w : World) (hn : n ≤ 1000000) (hcap : n ≤ cap) (hx : ∀ x ∈ q, x.n.size ≤ 1000) (hr : Rd w 4 encM A n q) (h : (queueS q).2 = E) :
    Calls Try.prog 57 #[.slice A n cap] w fun e w' => e = .returned (.int .i64 E) ∧ New w w' := h ▸ queueErr_any A n cap q w hn hcap hx hr

end Go.Proofs.Yteabmmibmopnkaa

namespace Go.Proofs.Yteabmmibmopnkaa
open Go.RowKit Go.Sky

set_option maxRecDepth 100000 in
set_option maxHeartbeats 4000000 in
theorem symOne (g : Nat) (c : Value) (q : List Sky.Item) (G n m cap base : Nat) (w : World) (hG : base ≤ G) (hm : 2 ≤ m) (hm1 : m + 1 ≤ n) (hm2 : n ≤ m + 1) (hn : n ≤ 1000)
    (eg : ∀ (args : Array Value) (W : World), (callFunc g args).run Try.prog W = .ok (.enter g args) W)
    (hc : ∀ i y, i < n → y < n → ∀ W, Below base w W → Calls Try.prog g #[.int .i64 ((i : Nat) : Int), .int .i64 ((y : Nat) : Int), c] W fun e w' => e = .returned (.int .i64 (cmpQ q i y)) ∧ New W w')
    (hb : base ≤ w.heap.size) (ho : Sky.Own w base 3 1 encN (some ⟨G, 0, none⟩) n cap (rowI q m n)) :
    Calls Try.prog 181 #[.slice (some ⟨G, 0, none⟩) n cap, .int .i64 0, .int .i64 (m : Int), .int .i64 (n : Int), .func (.func g) #[] #[c]] w fun e w' => e = .returned (.tuple #[]) ∧ Sky.Own w' base 3 1 encN (some ⟨G, 0, none⟩) n cap (rowI q (m + 1) n) ∧ Below base w w' := by
  have HC := Lib.hid hc; clear hc
  have d1 : ((m : Int) == 1) = false := by simp; omega
  have d2 : ((n : Int) - (m : Int) == 1) = true := by simp; omega
  have ho2 : Sky.Own w base 3 1 encN (some ⟨G, 0, none⟩) n cap (midI (sortQ q m) m m n) := by rw [← mid_start q (by omega)]; exact ho
  clear ho
  obtain ⟨C, hC⟩ : ∃ C, cutI (befQ q m) (sortQ q m) m = C := ⟨_, rfl⟩
  have hCm : C ≤ m := by rw [← hC]; exact cutI_le _ _ _
  have HCC := Lib.hid hC
  clear hC
  go_enter Try.func181, Try.ntmps181
  go_wp2
  go_loopw [14, 15, 16] (fun vi vj _ wr => ∃ i j : Nat, i ≤ C ∧ C ≤ j ∧ j ≤ m ∧ vi = .int .i64 (i : Int) ∧ vj = .int .i64 (j : Int) ∧ Sky.Own wr base 3 1 encN (some ⟨G, 0, none⟩) n cap (midI (sortQ q m) m m n) ∧ Below base w wr) (fun vi vj _ _ => (intOf vj).toNat - (intOf vi).toNat)
  case atStart => exact ⟨0, m, by omega, hCm, by omega, rfl, rfl, ho2, Below.refl _ _⟩
  case round =>
    clear ho2
    obtain ⟨i, j, hiC, hCj, hjm, rfl, rfl, ho, hB⟩ := hrel
    by_cases hij : i < j
    · go_wp2
      obtain ⟨h, hh⟩ : ∃ h : Nat, (i + j) / 2 = h := ⟨_, rfl⟩
      rw [show ((i : Int) + (j : Int)) / 2 = (h : Int) by omega]
      have h1 : i ≤ h := by omega
      have h2 : h < j := by omega
      clear hh
      obtain ⟨y, hy⟩ : ∃ y, (sortQ q m).getD h 0 = y := ⟨_, rfl⟩
      have hyi : y < m := hy ▸ getD_lt (by omega)
      have hl := sortQ_len q m
      have e1 := mid_at (x := m) (n := n) hl (j := m) (by omega)
      have e0 : (midI (sortQ q m) m m n)[h]? = some y := by
        unfold midI
        rw [List.getElem?_append_left (by simp; omega), List.getElem?_take_of_lt (by omega), List.getElem?_eq_getElem (by omega), ← hy, List.getD_eq_getElem?_getD, List.getElem?_eq_getElem (by omega)]
        rfl
      have hiff := cut_iff (q := q) (i := m) (h := h) (by omega)
      rw [hy, HCC.out] at hiff
      have HIFF := Lib.hid hiff
      clear hy hl hiff
      have c1 := ho.cell1 m m (.int .i64 (m : Int)) e1 rfl
      have c0 := ho.cell1 h y (.int .i64 (y : Int)) e0 rfl
      have hGl := World.block_lt_of_cell? _ _ c0
      have i1 : (m : Int) < (n : Int) := by omega
      have i2 : (0 : Int) ≤ (h : Int) := by omega
      have i3 : (h : Int) < (n : Int) := by omega
      have i4 : (0 : Int) ≤ (m : Int) := by omega
      obtain ⟨cv, hcv⟩ : ∃ c, cmpQ q m y = c := ⟨_, rfl⟩
      have HCV := Lib.hid hcv
      have hneg := cmpQ_neg (q := q) hyi
      rw [hcv] at hneg
      have HNEG := Lib.hid hneg
      clear hneg hcv e0 e1
      by_cases hc0 : cv < 0
      · have dc : decide (cv < 0) = true := decide_eq_true hc0
        have hge : C ≤ h := by
          rcases Nat.lt_or_ge h C with hlt | hge
          · have := HIFF.out.2 hlt
            rw [HNEG.out.1 hc0] at this; cases this
          · exact hge
        (refine wp_region_new (by kernel_rfl) (by kernel_rfl) ?_; (repeat (go_big_quiet_step ((exact quiet_new (cmpIs HC.out (by omega) (by omega) HCV.out (hB.trans ((plus_new _ _).below (by have := hB.size; omega)))))))); refine wpQuiet_nil ?_)
        intro w2 n2
        go_wp2
        go_roundw
        case rel => exact ⟨i, h, hiC, hge, by omega, rfl, rfl, ho.keep n2, hB.trans (n2.below (by have := hB.size; omega))⟩
        case measure => simp [intOf]; omega
      · have dc : decide (cv < 0) = false := decide_eq_false hc0
        have hlt : h < C := HIFF.out.1 (by cases hh : befQ q m y with | false => rfl | true => exact absurd (HNEG.out.2 hh) hc0)
        (refine wp_region_new (by kernel_rfl) (by kernel_rfl) ?_; (repeat (go_big_quiet_step ((exact quiet_new (cmpIs HC.out (by omega) (by omega) HCV.out (hB.trans ((plus_new _ _).below (by have := hB.size; omega)))))))); refine wpQuiet_nil ?_)
        intro w2 n2
        go_wp2
        go_roundw
        case rel => exact ⟨h + 1, j, by omega, hCj, hjm, by go_num, rfl, ho.keep n2, hB.trans (n2.below (by have := hB.size; omega))⟩
        case measure => simp [intOf]; omega
    · obtain rfl : i = C := by omega
      clear hCj hiC
      go_wp2
      go_loopw [17] (fun vk wx => ∃ k : Nat, i ≤ k ∧ k ≤ m ∧ vk = .int .i64 (k : Int) ∧ Sky.Own wx base 3 1 encN (some ⟨G, 0, none⟩) n cap (midI (sortQ q m) m k n) ∧ Below base w wx) (fun vk _ => (intOf vk).toNat)
      case atStart => exact ⟨m, hCm, by omega, rfl, ho, hB⟩
      case round =>
        clear ho hB
        obtain ⟨k, hik, hkm, rfl, ho, hB⟩ := hrel
        by_cases hki : i < k
        · obtain ⟨p, rfl⟩ : ∃ p, k = p + 1 := ⟨k - 1, by omega⟩
          rw [show ((p + 1 : Nat) : Int) = (p : Int) + 1 by omega]
          obtain ⟨y, hy⟩ : ∃ y, (sortQ q m).getD p 0 = y := ⟨_, rfl⟩
          have HY := Lib.hid hy
          have hl := sortQ_len q m
          have e1 := mid_at (x := m) (n := n) hl (j := p + 1) (by omega)
          have e0 := mid_left (x := m) (n := n) hl (j := p) (by omega)
          rw [hy] at e0
          have HS := Lib.hid (mid_step (x := m) (n := n) hl (j := p) (by omega))
          clear hy hl
          have k1 := ho.cell1 (p + 1) m (.int .i64 (m : Int)) e1 rfl
          have k0 := ho.cell1 p y (.int .i64 (y : Int)) e0 rfl
          have hGl := World.block_lt_of_cell? _ _ k0
          have dz : (i : Int) < (p : Int) + 1 := by omega
          have i1 : (p : Int) + 1 < (n : Int) := by omega
          have i2 : (0 : Int) ≤ (p : Int) := by omega
          have i3 : (p : Int) < (n : Int) := by omega
          have f1 := ho.free (p + 1)
          have f0 := ho.free p
          have k0' : (wr.setCell ⟨G, p + 1, none⟩ (.int .i64 (y : Int))).cell? ⟨G, p, none⟩ = some (.int .i64 (y : Int)) := (World.cell?_setCell_other _ _ _ _ (by intro e; simp only [Addr.mk.injEq] at e; omega)).trans k0
          have HO := Lib.hid (show Sky.Own ((wr.setCell ⟨G, p + 1, none⟩ (.int .i64 (y : Int))).setCell ⟨G, p, none⟩ (.int .i64 (m : Int))).drew base 3 1 encN (some ⟨G, 0, none⟩) n cap (midI (sortQ q m) m p n) by
            rw [← HS.out, HY.out]
            exact ((ho.set1 (p + 1) y _ (by omega) rfl).set1 p m _ (by omega) rfl).drew)
          have HB := Lib.hid (show Below base w ((wr.setCell ⟨G, p + 1, none⟩ (.int .i64 (y : Int))).setCell ⟨G, p, none⟩ (.int .i64 (m : Int))).drew from ((hB.setCell hG _).setCell hG _).drew)
          clear ho hB e0 e1
          go_wp2
          go_region
          go_wp2
          go_roundw
          case rel => exact ⟨p, by omega, by omega, by go_num, HO.out, HB.out⟩
          case measure => simp [intOf]
        · obtain rfl : k = i := by omega
          have HE := Lib.hid (mid_end (q := q) (n := n) HCC.out)
          go_wp2
          ((try simp only [Exit.inBlock, Exit.then]); refine bodyPost_ret (results_none rfl _ _ _) rfl ?_)
          exact ⟨rfl, by rw [← HE.out]; exact ho, hB⟩
end Go.Proofs.Yteabmmibmopnkaa

namespace Go.Proofs.Yteabmmibmopnkaa
open Go.RowKit Go.Sky

set_option maxRecDepth 100000 in
set_option maxHeartbeats 4000000 in
theorem stable21 (g : Nat) (c : Value) (q : List Sky.Item) (G n cap base : Nat) (w : World) (hG : base ≤ G) (hm : 21 ≤ n) (hn : n ≤ 21)
    (eg : ∀ (args : Array Value) (W : World), (callFunc g args).run Try.prog W = .ok (.enter g args) W)
    (hc : ∀ i y, i < n → y < n → ∀ W, Below base w W → Calls Try.prog g #[.int .i64 ((i : Nat) : Int), .int .i64 ((y : Nat) : Int), c] W fun e w' => e = .returned (.int .i64 (cmpQ q i y)) ∧ New W w')
    (hb : base ≤ w.heap.size) (ho : Sky.Own w base 3 1 encN (some ⟨G, 0, none⟩) n cap (List.range n)) :
    Calls Try.prog 153 #[.slice (some ⟨G, 0, none⟩) n cap, .int .i64 (n : Int), .func (.func g) #[] #[c]] w fun e w' => e = .returned (.tuple #[]) ∧ Sky.Own w' base 3 1 encN (some ⟨G, 0, none⟩) n cap (sortQ q n) ∧ Below base w w' := by
  have ho1 : Sky.Own w base 3 1 encN (some ⟨G, 0, none⟩) n cap (rowI q 1 n) := by rw [rowI_start q (by omega)]; exact ho
  clear ho
  have HC := Lib.hid hc; clear hc
  have HEG := Lib.hid eg; clear eg
  go_enter Try.func153, Try.ntmps153
  go_wp2
  go_loopw [7, 8] (fun va vb wr => (va = .int .i64 0 ∧ vb = .int .i64 20 ∧ wr = w) ∨ (va = .int .i64 20 ∧ vb = .int .i64 40 ∧ Sky.Own wr base 3 1 encN (some ⟨G, 0, none⟩) n cap (rowI q 20 n) ∧ Below base w wr)) (fun va _ _ => 40 - (intOf va).toNat)
  case atStart => exact .inl ⟨rfl, rfl, rfl⟩
  case round =>
    rcases hrel with ⟨rfl, rfl, rfl⟩ | ⟨rfl, rfl, ho2, hB⟩
    · go_wp2_with fail
      refine (insSort g c q G n 20 cap base _ hG (by omega) (by omega) (by omega) HEG.out HC.out hb ho1).mono ?_
      rintro e w2 ⟨rfl, o2, hB⟩
      go_wp2
      go_roundw
      case rel => exact .inr ⟨rfl, rfl, o2, hB⟩
      case measure => simp [intOf]
    · go_wp2_with fail
      refine (insTriv _ _ n 20 n cap _ (by omega) (by omega)).mono ?_
      rintro e w' ⟨rfl, rfl⟩
      go_wp2_with fail
      clear ho1
      go_loopw [6, 7, 8, 9] (fun v _ _ _ wx => (v = .int .i64 20 ∧ wx = wr) ∨ (v = .int .i64 40 ∧ Sky.Own wx base 3 1 encN (some ⟨G, 0, none⟩) n cap (rowI q (20 + 1) n) ∧ Below base w wx)) (fun v _ _ _ _ => 60 - (intOf v).toNat)
      case atStart => exact .inl ⟨rfl, rfl⟩
      case round =>
        rcases hrel with ⟨rfl, rfl⟩ | ⟨rfl, ho3, hB3⟩
        · go_wp2_with fail
          go_loopw [7, 8] (fun va vb wx => va = .int .i64 0 ∧ vb = .int .i64 40 ∧ wx = wr) (fun _ _ _ => 0)
          case atStart => exact ⟨rfl, rfl, rfl⟩
          case round =>
            obtain ⟨rfl, rfl, rfl⟩ := hrel
            go_wp2_with fail
            refine (symOne g c q G n 20 cap base _ hG (by omega) (by omega) (by omega) (by omega) HEG.out (fun i y hi hy W hW => HC.out i y hi hy W (hB.trans hW)) (by have := hB.size; omega) ho2).mono ?_
            rintro e w4 ⟨rfl, o4, hB4⟩
            go_wp2
            go_roundw
            case rel => exact .inr ⟨rfl, o4, hB.trans hB4⟩
            case measure => simp [intOf]
        · have o5 : Sky.Own wr base 3 1 encN (some ⟨G, 0, none⟩) n cap (sortQ q n) := by
            rw [← rowI_full q n]
            rw [show (20 + 1 : Nat) = n by omega] at ho3
            exact ho3
          go_wp2
          go_end0
          exact ⟨rfl, o5, hB3⟩

set_option maxHeartbeats 1000000 in
theorem sortStable21 (g : Nat) (c : Value) (q : List Sky.Item) (A : Option Addr) (n cap base : Nat) (w : World) (hn : n ≤ 21)
    (eg : ∀ (args : Array Value) (W : World), (callFunc g args).run Try.prog W = .ok (.enter g args) W)
    (hc : ∀ i y, i < n → y < n → ∀ W, Below base w W → Calls Try.prog g #[.int .i64 ((i : Nat) : Int), .int .i64 ((y : Nat) : Int), c] W fun e w' => e = .returned (.int .i64 (cmpQ q i y)) ∧ New W w')
    (hb : base ≤ w.heap.size) (ho : Sky.Own w base 3 1 encN A n cap (List.range n)) :
    Calls Try.prog 116 #[.slice A n cap, .func (.func g) #[] #[c]] w fun e w' => e = .returned (.tuple #[]) ∧ Sky.Own w' base 3 1 encN A n cap (sortQ q n) ∧ Below base w w' := by
  have HC := Lib.hid hc; clear hc
  have HEG := Lib.hid eg; clear eg
  rcases ho.form with ⟨rfl, rfl, rfl, _⟩ | ⟨G, rfl, hG, _, _, _⟩
  · go_enter Try.func116, Try.ntmps116
    go_wp2_with fail
    refine (stable0 _ _ _ _).mono ?_
    rintro e w' ⟨rfl, rfl⟩
    go_wp2
    go_end0
    exact ⟨rfl, ho, Below.refl _ _⟩
  · rcases Nat.eq_zero_or_pos n with rfl | hm
    · go_enter Try.func116, Try.ntmps116
      go_wp2_with fail
      refine (stable0 _ _ _ _).mono ?_
      rintro e w' ⟨rfl, rfl⟩
      go_wp2
      go_end0
      exact ⟨rfl, ho, Below.refl _ _⟩
    · by_cases h20 : n ≤ 20
      · go_enter Try.func116, Try.ntmps116
        go_wp2_with fail
        refine (stable20 g c q G n cap base _ hG hm h20 HEG.out HC.out hb ho).mono ?_
        rintro e w' ⟨rfl, o2, hB⟩
        go_wp2
        go_end0
        exact ⟨rfl, o2, hB⟩
      · go_enter Try.func116, Try.ntmps116
        go_wp2_with fail
        refine (stable21 g c q G n cap base _ hG (by omega) hn HEG.out HC.out hb ho).mono ?_
        rintro e w' ⟨rfl, o2, hB⟩
        go_wp2
        go_end0
        exact ⟨rfl, o2, hB⟩

set_option maxRecDepth 100000 in
set_option maxHeartbeats 4000000 in
theorem order21_any (q : List Sky.Item) (A : Option Addr) (n cap : Nat) (w : World) (hn : n ≤ 21) (hr : Rd w 4 encM A n q) :
    Calls Try.prog 63 #[.slice A n cap] w fun e w' => ∃ A' c', e = .returned (.slice A' n c') ∧ Sky.Own w' (w.heap.size + 1) 3 1 encN A' n c' (sortQ q n) ∧ New w w' := by
  obtain ⟨i0, hi, hz0, hz1, hz2⟩ := info_parts infoInt
  have HR := Lib.hid hr; clear hr
  have HG := Lib.hid (enters_go (f := 117) Try.func117 (by kernel_rfl) rfl)
  have b0 := Bx.mk w 42 #[.slice A n cap]
  have hN0 := (New.refl w).alloc (.cells #[.slice A n cap] 42)
  have c0 : World.cell? _ ⟨w.heap.size, 0, none⟩ = some (.slice A n cap) := b0.cell 0
  have l0 := b0.lt
  go_enter Try.func63, Try.ntmps63
  go_wp2
  go_loopw [3, 4, 7] (fun v _ i wr => ∃ (k : Nat) (A' : Option Addr) (c' : Nat), k ≤ n ∧ i = .int .i64 (k : Int) ∧ v = .slice A' k c' ∧ Sky.Own wr (w.heap.size + 1) 3 1 encN A' k c' (List.range k) ∧ New w wr ∧ Bx wr w.heap.size 42 #[.slice A n cap]) (fun _ _ i _ => n - (intOf i).toNat)
  case atStart => exact ⟨0, none, 0, by omega, rfl, rfl, Own.nil _ _ _ _ encN_len, hN0, b0⟩
  case round =>
    clear b0 hN0 c0 l0
    obtain ⟨k, A', c', hk, rfl, rfl, hown, hN, b1⟩ := hrel
    by_cases hlt : k < n
    · have hks := b1.lt
      go_wp2_with (at_builtin; refine wpList_push _ rfl _ _ 58 rfl 3 i0 _ 1 8 Try.underlying58 hi hz0 hz1 hz2 rfl (by omega) (w.heap.size + 1) encN A' k c' _ rfl (by exact hown.alloc _) _ 1 1 [k] rfl rfl (by omega) (by exact cells_new _ _ _ _ (by simp) _ rfl) encN_one (by unfold maxLen; omega) (by omega) (by simp; omega) ?_; intro g cap2 w4 hown4 hg4 hat4 hb4 hlt4 hN4)
      have b4 := (b1.alloc (.cells #[.int .i64 (k : Int)] 3)).grown hg4 (fun e => by
        rcases hown.form with ⟨h0, _⟩ | ⟨g', h0, hge, _⟩
        · rw [h0] at e; cases e
        · rw [h0] at e
          simp at e
          omega)
      go_roundw
      case rel => exact ⟨k + 1, _, cap2, by omega, by go_num, rfl, by rw [List.range_succ]; exact hown4, (hN.alloc _).grownOwn (hown.alloc _) (by omega) hg4, b4⟩
      case measure => simp [intOf]; omega
    · obtain rfl : k = n := by omega
      have hsz := b1.lt
      have hNs := hN.size
      go_wp2_with fail
      refine (sortStable21 117 _ q A' k c' (w.heap.size + 1) _ hn HG.out (fun i y hi hy W hW => ordClos q A k cap i y w.heap.size W hi hy (by omega) ((b1.below hW (by omega)).cell 0) (HR.out.keep (hN.trans' hW))) (by omega) hown).mono ?_
      rintro e w2 ⟨rfl, o2, hB⟩
      go_wp2
      go_ret
      exact ⟨A', c', rfl, o2, hN.trans' hB⟩

end Go.Proofs.Yteabmmibmopnkaa

namespace Go.Proofs.Yteabmmibmopnkaa
open Go.RowKit Go.Sky

set_option maxRecDepth 100000 in
set_option maxHeartbeats 1000000 in
theorem total_any (A : Option Addr) (n cap : Nat) (q : List Sky.Item) (w : World) (hn : n ≤ 1000) (hz : ∀ x ∈ q, 0 ≤ x.z ∧ x.z ≤ 10000) (hr : Rd w 4 encM A n q) :
    Calls Try.prog 62 #[.slice A n cap] w fun e w' => e = .returned (.int .i64 (totalI q)) ∧ New w w' := by
  have HL := Lib.hid hr.len
  have HR := Lib.hid hr; clear hr
  have HZ := Lib.hid hz; clear hz
  go_enter Try.func62, Try.ntmps62
  go_wp2
  go_loopw [3, 5, 8] (fun s _ i wr => ∃ k : Nat, k ≤ n ∧ i = .int .i64 (k : Int) ∧ s = .int .i64 (foldTo addZ 0 q k) ∧ New w wr) (fun _ _ i _ => n - (intOf i).toNat)
  case atStart => exact ⟨0, by omega, rfl, rfl, New.refl _⟩
  case round =>
    obtain ⟨k, hk, rfl, rfl, hN⟩ := hrel
    by_cases hlt : k < n
    · obtain ⟨b, o, x, rfl, hb, hx, hc⟩ := (HR.out.keep hN).at_ hlt
      have g0 := hc 0 _ rfl
      have g1 := hc 1 _ rfl
      have g2 := hc 2 _ rfl
      have g3 := hc 3 _ rfl
      simp only [Nat.add_zero] at g0
      have HST := Lib.hid (foldTo_step addZ 0 q k x hx)
      have hS := total_in HZ.out k (by have := HL.out; omega)
      have hxz := HZ.out x (List.mem_of_getElem? hx)
      obtain ⟨S, hSS⟩ : ∃ S, foldTo addZ 0 q k = S := ⟨_, rfl⟩
      rw [hSS] at HST hS ⊢
      obtain ⟨s0, s1⟩ := hS
      obtain ⟨z0, z1⟩ := hxz
      clear hSS hx hc
      have bx := Bx.mk wr 44 (encM x).toArray
      have nn := hN.alloc (.cells (encM x).toArray 44)
      have d2 : World.cell? _ ⟨wr.heap.size, 2, none⟩ = some (.int .i64 x.z) := bx.cell 2
      have lb := bx.lt
      go_wp2
      go_roundw
      case rel => exact ⟨k + 1, by omega, by go_num, by rw [HST.out]; rfl, nn⟩
      case measure => simp [intOf]; omega
    · have HV := Lib.hid (show totalI q = foldTo addZ 0 q k by unfold totalI; rw [HL.out, show k = n by omega])
      go_wp2
      go_ret
      exact ⟨by rw [HV.out]; rfl, hN⟩

set_option maxRecDepth 100000 in
set_option maxHeartbeats 1000000 in
theorem refTotal_any (A : Option Addr) (n cap : Nat) (q : List Sky.Item) (w : World) (hn : n ≤ 1000) (hz : ∀ x ∈ q, 0 ≤ x.z ∧ x.z ≤ 10000) (hr : Rd w 4 encM A n q) :
    Calls Try.prog 67 #[.slice A n cap] w fun e w' => e = .returned (.int .i64 (totalI q)) ∧ w = w' := by
  have HL := Lib.hid hr.len
  have HR := Lib.hid hr; clear hr
  have HZ := Lib.hid hz; clear hz
  go_enter Try.func67, Try.ntmps67
  go_wp2
  go_loopw [3, 4] (fun s i wr => ∃ k : Nat, k ≤ n ∧ i = .int .i64 (k : Int) ∧ s = .int .i64 (foldTo addZ 0 q k) ∧ wr = w) (fun _ i _ => n - (intOf i).toNat)
  case atStart => exact ⟨0, by omega, rfl, rfl, rfl⟩
  case round =>
    obtain ⟨k, hk, rfl, rfl, rfl⟩ := hrel
    by_cases hlt : k < n
    · obtain ⟨b, o, x, rfl, hb, hx, hc⟩ := HR.out.at_ hlt
      have g2 := hc 2 _ rfl
      have HST := Lib.hid (foldTo_step addZ 0 q k x hx)
      have hS := total_in HZ.out k (by have := HL.out; omega)
      have hxz := HZ.out x (List.mem_of_getElem? hx)
      obtain ⟨S, hSS⟩ : ∃ S, foldTo addZ 0 q k = S := ⟨_, rfl⟩
      rw [hSS] at HST hS ⊢
      obtain ⟨s0, s1⟩ := hS
      obtain ⟨z0, z1⟩ := hxz
      clear hSS hx hc
      go_wp2
      go_roundw
      case rel => exact ⟨k + 1, by omega, by go_num, by rw [HST.out]; rfl, trivial⟩
      case measure => simp [intOf]; omega
    · have HV := Lib.hid (show totalI q = foldTo addZ 0 q k by unfold totalI; rw [HL.out, show k = n by omega])
      go_wp2
      go_ret
      exact ⟨by rw [HV.out]; rfl, rfl⟩
end Go.Proofs.Yteabmmibmopnkaa

namespace Go.Proofs.Yteabmmibmopnkaa
open Go.RowKit Go.Sky

set_option maxHeartbeats 400000 in
theorem cloneM_any (A : Option Addr) (n cap : Nat) (xs : List Sky.Item) (w : World) (hn : n ≤ 1000000) (hr : Rd w 4 encM A n xs) :
    Calls Try.prog 61 #[.slice A n cap] w fun e w' => ∃ A' cap', e = .returned (.slice A' n cap') ∧ Sky.Own w' w.heap.size 44 4 encM A' n cap' xs ∧ New w w' := by
  obtain ⟨i0, hi, hz0, hz1, hz2⟩ := info_parts infoItem
  have hnil := fun W => Lib.run_eql_slice_nil (P := Try.prog) W 42 44 A n cap 0 0 Try.underlying42
  cases A with
  | none =>
    have h0 : n = 0 := by
      rcases Nat.eq_zero_or_pos n with h | h
      · exact h
      · obtain ⟨b, o, e, _⟩ := hr.some_ h; cases e
    subst h0
    have hxs : xs = [] := List.eq_nil_of_length_eq_zero hr.1
    subst hxs
    clear hr hi hz0 hz1 hz2
    simp only [Option.isNone_none] at hnil
    go_enter Try.func61, Try.ntmps61
    go_wp2
    go_ret
    exact ⟨none, 0, rfl, Own.nil _ _ _ _ encM_len, New.refl _⟩
  | some a =>
    have HR := Lib.hid hr; clear hr
    simp only [Option.isNone_some] at hnil
    go_enter Try.func61, Try.ntmps61
    go_wp2_with (at_builtin; refine wpList_pour _ rfl _ _ 42 rfl 44 i0 _ 4 40 Try.underlying42 hi hz0 hz1 hz2 rfl (by omega) w.heap.size encM _ 0 0 [] rfl (by exact Own.empty _ _ _ _ encM_len _ (by simp) (by simp)) (some a) n cap xs rfl (by exact HR.out.keep ((New.refl _).alloc _)) encM_one (by unfold maxLen; omega) (by omega) (by simp) ?_; intro A2 cap2 w2 hown2 hg2 hN2)
    go_ret
    refine ⟨A2, cap2, rfl, ?_, hN2 w ((New.refl w).alloc _) (Nat.le_refl _)⟩
    rw [Nat.zero_add] at hown2
    exact hown2


/-- What Put's tests answer beside the queue's own. -/
def putE (q : List Sky.Item) (x : Sky.Item) (c : Int) (n : Nat) : Int := firstE [itemE q x, errU (inR c 0 200000) 2, errU (decide (n < 20)) 8]

set_option maxRecDepth 100000 in
set_option maxHeartbeats 1000000 in
theorem refPutErr_any (x : Sky.Item) (c : Int) (A : Option Addr) (n cap : Nat) (q : List Sky.Item) (w : World) (hn : n ≤ 1000000) (hx : x.n.size ≤ 1000) (hr : Rd w 4 encM A n q) :
    Calls Try.prog 22 #[.slice A n cap, .agg #[.string x.n, .int .i64 x.p, .int .i64 x.z, .int .i64 x.t], .int .i64 c] w fun e w' => e = .returned (.int .i64 (putE q x c n)) ∧ New w w' := by
  have HR := Lib.hid hr; clear hr
  have HX := Lib.hid hx; clear hx
  have N0 := (New.refl w).alloc (.cells (encM x).toArray 44)
  obtain ⟨E, hE⟩ : ∃ E, itemE q x = E := ⟨_, rfl⟩
  have HE := Lib.hid hE
  have HV := Lib.hid (show putE q x c n = firstE [E, errU (inR c 0 200000) 2, errU (decide (n < 20)) 8] by unfold putE; rw [hE])
  clear hE
  by_cases hz : E = 0
  · have dz : (E != 0) = false := by simpa using hz
    have HZ := Lib.hid hz
    clear hz
    obtain ⟨b, hb⟩ : ∃ b, inR c 0 200000 = b := ⟨_, rfl⟩
    have HB := Lib.hid hb
    clear hb
    by_cases h20 : n < 20
    · have hd : ¬ (20 : Int) ≤ (n : Int) := by omega
      have HV2 := Lib.hid (show putE q x c n = errU b 2 by rw [HV.out, HZ.out, HB.out, decide_eq_true h20]; cases b <;> rfl)
      go_enter Try.func22, Try.ntmps22
      go_wp2_with fail
      refine (refItem_is x E A n cap q _ hn HX.out (HR.out.keep N0) HE.out).mono ?_
      rintro e w1 ⟨rfl, n1⟩
      go_wp2_with fail
      refine (bWithin_is _ _ _ b _ HB.out).mono ?_
      rintro e w' ⟨rfl, rfl⟩
      cases b
      all_goals
        go_wp2
        go_ret
        exact ⟨by rw [HV2.out]; rfl, N0.trans n1⟩
    · have hd : (20 : Int) ≤ (n : Int) := by omega
      have HV2 := Lib.hid (show putE q x c n = if b then 8 else 2 by rw [HV.out, HZ.out, HB.out, decide_eq_false h20]; cases b <;> rfl)
      go_enter Try.func22, Try.ntmps22
      go_wp2_with fail
      refine (refItem_is x E A n cap q _ hn HX.out (HR.out.keep N0) HE.out).mono ?_
      rintro e w1 ⟨rfl, n1⟩
      go_wp2_with fail
      refine (bWithin_is _ _ _ b _ HB.out).mono ?_
      rintro e w' ⟨rfl, rfl⟩
      cases b
      all_goals
        go_wp2
        go_ret
        exact ⟨by rw [HV2.out]; rfl, N0.trans n1⟩
  · have dz : (E != 0) = true := by simpa using hz
    have HV2 := Lib.hid (show putE q x c n = E by rw [HV.out, firstE_three, firstE_two]; simp [hz])
    clear hz
    go_enter Try.func22, Try.ntmps22
    go_wp2_with fail
    refine (refItem_is x E A n cap q _ hn HX.out (HR.out.keep N0) HE.out).mono ?_
    rintro e w1 ⟨rfl, n1⟩
    go_wp2
    go_ret
    exact ⟨by rw [HV2.out]; rfl, N0.trans n1⟩
end Go.Proofs.Yteabmmibmopnkaa

namespace Go.Proofs.Yteabmmibmopnkaa
open Go.RowKit Go.Sky

def encS (s : ByteArray) : List Value := [.string s]
theorem encS_len (x : ByteArray) : (encS x).length = 1 := rfl
theorem encS_one (x : ByteArray) : ∀ u ∈ encS x, u.oneCell' = true := by intro u hu; simp [encS] at hu; subst hu; rfl

set_option maxRecDepth 100000 in
set_option maxHeartbeats 1000000 in
theorem texts_like (A B : Option Addr) (n c1 c2 : Nat) (xs : List ByteArray) (w : World) (hn : n ≤ 1000000) (hr : Rd w 1 encS A n xs) (hs : Rd w 1 encS B n xs) :
    Calls Try.prog 25 #[.slice A n c1, .slice B n c2] w fun e w' => e = .returned (.bool true) ∧ New w w' := by
  have HR := Lib.hid hr; clear hr
  have HS := Lib.hid hs; clear hs
  have d0 : ((n : Int) != (n : Int)) = false := by simp
  go_enter Try.func25, Try.ntmps25
  go_wp2
  go_loopw [5] (fun i wr => ∃ k : Nat, k ≤ n ∧ i = .int .i64 (k : Int) ∧ New w wr) (fun i _ => n - (intOf i).toNat)
  case atStart => exact ⟨0, by omega, rfl, New.refl _⟩
  case round =>
    obtain ⟨k, hk, rfl, hN⟩ := hrel
    by_cases hlt : k < n
    · obtain ⟨b, o, x, rfl, hb, hx, hc⟩ := (HR.out.keep hN).at_ hlt
      obtain ⟨b', o', x', rfl, hb', hx', hc'⟩ := (HS.out.keep hN).at_ hlt
      rw [hx] at hx'
      injection hx' with hx'
      subst hx'
      have g0 := hc 0 _ rfl
      have g1 := hc' 0 _ rfl
      simp only [Nat.add_zero, Nat.mul_one] at g0 g1
      have i0 : (0 : Int) ≤ (k : Int) := by omega
      have i1 : (k : Int) < (n : Int) := by omega
      have dx : (x.toList != x.toList) = false := by simp
      clear hx hc hc'
      go_wp2
      (refine wp_region_new (by kernel_rfl) (by kernel_rfl) ?_; (repeat (go_big_quiet_step ((fail)))); refine wpQuiet_nil ?_)
      intro w2 n2
      go_wp2
      go_roundw
      case rel => exact ⟨k + 1, by omega, by go_num, hN.trans n2⟩
      case measure => simp [intOf]; omega
    · go_wp2
      go_ret
      exact ⟨rfl, hN⟩

theorem eql_item_d (n : Nat) (x : Sky.Item) (W : World) : (Op.equalIn (n + 2) 44 (.agg #[.string x.n, .int .i64 x.p, .int .i64 x.z, .int .i64 x.t]) (.agg #[.string x.n, .int .i64 x.p, .int .i64 x.z, .int .i64 x.t])).run Try.prog W = .ok true W := by
  have u := Try.underlying44
  have u3 := Try.underlying3
  have z3 := Try.sizeOf3
  have a3 := Try.isAgg3
  have u9 := Try.underlying9
  have z9 := Try.sizeOf9
  have a9 := Try.isAgg9
  rw [Op.equalIn]
  simp [run_underlying u, part, go_sem, a3, u3, a9, u9, z3, z9]
theorem eql_item (x : Sky.Item) (W : World) : (Op.equalIn 10000 44 (.agg #[.string x.n, .int .i64 x.p, .int .i64 x.z, .int .i64 x.t]) (.agg #[.string x.n, .int .i64 x.p, .int .i64 x.z, .int .i64 x.t])).run Try.prog W = .ok true W := eql_item_d 9998 x W
theorem guard_item : (Try.prog).eqGuardType (Try.prog).depth 44 = false := by kernel_rfl

set_option maxRecDepth 100000 in
set_option maxHeartbeats 1000000 in
theorem items_like (A B : Option Addr) (n c1 c2 : Nat) (xs : List Sky.Item) (w : World) (hn : n ≤ 1000000) (hr : Rd w 4 encM A n xs) (hs : Rd w 4 encM B n xs) :
    Calls Try.prog 24 #[.slice A n c1, .slice B n c2] w fun e w' => e = .returned (.bool true) ∧ New w w' := by
  have HR := Lib.hid hr; clear hr
  have HS := Lib.hid hs; clear hs
  have heq := eql_item
  have hgu := guard_item
  have d0 : ((n : Int) != (n : Int)) = false := by simp
  go_enter Try.func24, Try.ntmps24
  go_wp2
  go_loopw [5] (fun i wr => ∃ k : Nat, k ≤ n ∧ i = .int .i64 (k : Int) ∧ New w wr) (fun i _ => n - (intOf i).toNat)
  case atStart => exact ⟨0, by omega, rfl, New.refl _⟩
  case round =>
    obtain ⟨k, hk, rfl, hN⟩ := hrel
    by_cases hlt : k < n
    · obtain ⟨b, o, x, rfl, hb, hx, hc⟩ := (HR.out.keep hN).at_ hlt
      obtain ⟨b', o', x', rfl, hb', hx', hc'⟩ := (HS.out.keep hN).at_ hlt
      rw [hx] at hx'
      injection hx' with hx'
      subst hx'
      have g0 := hc 0 _ rfl
      have g1 := hc 1 _ rfl
      have g2 := hc 2 _ rfl
      have g3 := hc 3 _ rfl
      have k0 := hc' 0 _ rfl
      have k1 := hc' 1 _ rfl
      have k2 := hc' 2 _ rfl
      have k3 := hc' 3 _ rfl
      simp only [Nat.add_zero] at g0 k0
      have i0 : (0 : Int) ≤ (k : Int) := by omega
      have i1 : (k : Int) < (n : Int) := by omega
      clear hx hc hc'
      go_wp2
      (refine wp_region_new (by kernel_rfl) (by kernel_rfl) ?_; (repeat (go_big_quiet_step ((fail)))); refine wpQuiet_nil ?_)
      intro w2 n2
      go_wp2
      go_roundw
      case rel => exact ⟨k + 1, by omega, by go_num, hN.trans n2⟩
      case measure => simp [intOf]; omega
    · go_wp2
      go_ret
      exact ⟨rfl, hN⟩
end Go.Proofs.Yteabmmibmopnkaa

namespace Go.Proofs.Yteabmmibmopnkaa
open Go.RowKit Go.Sky

theorem refQueueErr_any (A : Option Addr) (n cap : Nat) (q : List Sky.Item) (w : World) (hn : n ≤ 1000000) (hcap : n ≤ cap) (hx : ∀ x ∈ q, x.n.size ≤ 1000) (hr : Rd w 4 encM A n q) :
    Calls Try.prog 21 #[.slice A n cap] w fun e w' => e = .returned (.int .i64 (queueS q).2) ∧ New w w' := by
  have HR := Lib.hid hr; clear hr
  have HX := Lib.hid hx; clear hx
  go_enter Try.func21, Try.ntmps21
  go_wp2_with fail
  refine (refQ_any A n cap q _ hn hcap HX.out HR.out).mono ?_
  rintro e w' ⟨rfl, n1⟩
  go_wp2
  go_ret
  exact ⟨rfl, n1⟩

end Go.Proofs.Yteabmmibmopnkaa
