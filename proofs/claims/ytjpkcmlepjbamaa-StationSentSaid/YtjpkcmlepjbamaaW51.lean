/- Contracts: the reference of queues: before, OrderOf. -/
import Derived.Test.YtjpkcmlepjbamaaW50
import Derived.Test.YtjpkcmlepjbamaaQTk
namespace Go.Proofs.Ytjpkcmlepjbamaa
open Go.RowKit Go.Sky

theorem bef_of {q : List Sky.Item} {a b : Nat} {x y : Sky.Item} (hx : q[a]? = some x) (hy : q[b]? = some y) : befQ q a b = if x.p ≠ y.p then decide (y.p < x.p) else if x.t ≠ y.t then decide (x.t < y.t) else decide (a < b) := by
  unfold befQ
  rw [hx, hy]
  rfl

set_option maxRecDepth 100000 in
set_option maxHeartbeats 4000000 in
theorem before_item (q : List Sky.Item) (A : Option Addr) (n cap a b : Nat) (w : World) (ha : a < n) (hb : b < n) (hn : n ≤ 1000000) (hr : Rd w 4 encM A n q) :
    Calls Try.prog 117 #[.slice A n cap, .int .i64 (a : Int), .int .i64 (b : Int)] w fun e w' => e = .returned (.bool (befQ q a b)) ∧ New w w' := by
  obtain ⟨ba, oa, x, rfl, hba, hx, hcx⟩ := hr.at_ ha
  obtain ⟨bb, ob, y, e, hbb, hy, hcy⟩ := hr.at_ hb
  injection e with e
  injection e with e1 e2
  subst e1 e2
  have x0 := hcx 0 _ rfl
  have x1 := hcx 1 _ rfl
  have x2 := hcx 2 _ rfl
  have x3 := hcx 3 _ rfl
  have y0 := hcy 0 _ rfl
  have y1 := hcy 1 _ rfl
  have y2 := hcy 2 _ rfl
  have y3 := hcy 3 _ rfl
  simp only [Nat.add_zero] at x0 y0
  have HV := Lib.hid (bef_of hx hy)
  have i0 : (0 : Int) ≤ (a : Int) := by omega
  have i1 : (a : Int) < (n : Int) := by omega
  have j0 : (0 : Int) ≤ (b : Int) := by omega
  have j1 : (b : Int) < (n : Int) := by omega
  clear hr hx hy hcx hcy hbb
  go_enter Try.func117, Try.ntmps117
  go_wp2
  refine wp_region_takes0 w (New.refl _) 8 4 #[true, true, true, true, true, true, true, true, false, false, false, false] (by kernel_rfl) (by kernel_rfl) (by kernel_rfl) (by kernel_rfl) (by kernel_rfl) (by kernel_rfl) ?_
  simp only [List.take_succ_cons, List.take_zero]
  (repeat (go_big_quiet_step ((fail))))
  refine wpQuiet_nil ?_
  intro W1 n1
  refine two_next 8 9 (by kernel_rfl) (new_plus n1) ?o1 ?o2
  case' o1 =>
    refine wpOpIn_list rfl ?_
    gi_wp2
    refine one_next 9 (by kernel_rfl) (new_plus (n1.alloc _)) (wpOpIn_list rfl ?_)
    gi_wp2
    refine one_next 10 (by kernel_rfl) (new_plus ((n1.alloc _).alloc _)) (wpOpIn_list rfl ?_)
    gi_wp2
    refine one_next 11 (by kernel_rfl) (new_plus ((n1.alloc _).alloc _)) (wpOpIn_list rfl ?_)
    gi_wp2
    have nn := (n1.alloc (.cells (encM x).toArray 102)).alloc (.cells (encM y).toArray 102)
    have b7 := (Bx.mk W1 102 (encM x).toArray).alloc (.cells (encM y).toArray 102)
    have b8 := Bx.mk_at (W1.alloc (.cells (encM x).toArray 102)) 102 (encM y).toArray (W1.heap.size + 1) (by simp)
    refine end_any (new_plus nn) (by kernel_rfl) ?_
    obtain ⟨W3, hW3⟩ : ∃ W3, (W1.alloc (.cells (encM x).toArray 102)).alloc (.cells (encM y).toArray 102) = W3 := ⟨_, rfl⟩
  case' o2 =>
    refine wpOpIn_list rfl ?_
    gi_wp2
    refine one_next 8 (by kernel_rfl) (new_plus (n1.alloc _)) (wpOpIn_list rfl ?_)
    gi_wp2
    refine one_next 10 (by kernel_rfl) (new_plus ((n1.alloc _).alloc _)) (wpOpIn_list rfl ?_)
    gi_wp2
    refine one_next 11 (by kernel_rfl) (new_plus ((n1.alloc _).alloc _)) (wpOpIn_list rfl ?_)
    gi_wp2
    have nn := (n1.alloc (.cells (encM y).toArray 102)).alloc (.cells (encM x).toArray 102)
    have b8 := (Bx.mk W1 102 (encM y).toArray).alloc (.cells (encM x).toArray 102)
    have b7 := Bx.mk_at (W1.alloc (.cells (encM y).toArray 102)) 102 (encM x).toArray (W1.heap.size + 1) (by simp)
    refine end_any (new_plus nn) (by kernel_rfl) ?_
    obtain ⟨W3, hW3⟩ : ∃ W3, (W1.alloc (.cells (encM y).toArray 102)).alloc (.cells (encM x).toArray 102) = W3 := ⟨_, rfl⟩
  all_goals
    rw [hW3] at nn b7 b8
    simp only [encM] at hW3
    rw [hW3]
    clear hW3
    have l7 := b7.lt
    have l8 := b8.lt
    have s1 : World.cell? _ _ = some (.int .i64 x.p) := b7.cell 1
    have s3 : World.cell? _ _ = some (.int .i64 x.t) := b7.cell 3
    have t1 : World.cell? _ _ = some (.int .i64 y.p) := b8.cell 1
    have t3 : World.cell? _ _ = some (.int .i64 y.t) := b8.cell 3
    clear b7 b8 x0 x1 x2 x3 y0 y1 y2 y3
    by_cases hp : x.p = y.p
    · have d1 : (x.p != y.p) = false := by simp [hp]
      have HV2 := Lib.hid (HV.out.trans (if_neg (fun h => h hp)))
      clear hp HV
      by_cases ht : x.t = y.t
      · have d2 : (x.t != y.t) = false := by simp [ht]
        have HV3 := Lib.hid (HV2.out.trans (if_neg (fun h => h ht)))
        clear ht HV2
        go_wp2
        go_ret
        exact ⟨by rw [HV3.out]; simp, nn⟩
      · have d2 : (x.t != y.t) = true := by simp [ht]
        have HV3 := Lib.hid (HV2.out.trans (if_pos ht))
        clear ht HV2
        go_wp2
        go_ret
        exact ⟨by rw [HV3.out]; rfl, nn⟩
    · have d1 : (x.p != y.p) = true := by simp [hp]
      have HV2 := Lib.hid (HV.out.trans (if_pos hp))
      clear hp HV
      go_wp2
      go_ret
      exact ⟨by rw [HV2.out]; rfl, nn⟩
end Go.Proofs.Ytjpkcmlepjbamaa
