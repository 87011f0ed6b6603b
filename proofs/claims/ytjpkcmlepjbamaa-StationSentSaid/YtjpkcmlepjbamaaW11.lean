/- Contracts: Index and Contains at pairs. -/
import Derived.Test.YtjpkcmlepjbamaaW5
import Derived.Test.YtjpkcmlepjbamaaSpecD
namespace Go.Proofs.Ytjpkcmlepjbamaa
open Go.RowKit Go.Sky

def encP (p : Int × Int) : List Value := [.int .i64 p.1, .int .i64 p.2]

theorem eql_pair_d (n : Nat) (a b c d : Int) (W : World) : (Op.equalIn (n + 2) 52 (.agg #[.int .i64 a, .int .i64 b]) (.agg #[.int .i64 c, .int .i64 d])).run Try.prog W = .ok (a == c && b == d) W := by
  have u := Try.underlying52
  have u3 := Try.underlying3
  have z3 := Try.sizeOf3
  have a3 := Try.isAgg3
  rw [Op.equalIn]
  by_cases h1 : a = c <;> by_cases h2 : b = d
  all_goals
    simp [run_underlying u, part, go_sem, h1, h2, a3, u3, List.range']

theorem eql_pair (a b c d : Int) (W : World) : (Op.equalIn 10000 52 (.agg #[.int .i64 a, .int .i64 b]) (.agg #[.int .i64 c, .int .i64 d])).run Try.prog W = .ok (a == c && b == d) W := eql_pair_d 9998 a b c d W
theorem guard_pair : (Try.prog).eqGuardType (Try.prog).depth 52 = false := by kernel_rfl

set_option maxRecDepth 100000 in
set_option maxHeartbeats 1000000 in
theorem indexP (A : Option Addr) (n cap : Nat) (xs : List (Int × Int)) (p : Int × Int) (w : World) (hn : n ≤ 1000000) (hr : Rd w 2 encP A n xs) :
    Calls Try.prog 138 #[.slice A n cap, .agg #[.int .i64 p.1, .int .i64 p.2]] w fun e w' => e = .returned (.int .i64 (idxS (sameP p) xs)) ∧ New w w' := by
  have HR := Lib.hid hr; clear hr
  have heq := eql_pair
  have hgu := guard_pair
  go_enter Try.func138, Try.ntmps138
  go_wp2
  go_loopw [5, 8] (fun _ i wr => ∃ k : Nat, k ≤ n ∧ i = .int .i64 k ∧ Hid (∀ j x, j < k → xs[j]? = some x → sameP p x = false) ∧ Bx wr w.heap.size 52 #[.int .i64 p.1, .int .i64 p.2] ∧ New w wr) (fun _ i _ => n - (intOf i).toNat)
  case atStart => exact ⟨0, by omega, rfl, (fun j x hj => absurd hj (by omega)), Bx.mk _ _ _, (New.refl _).alloc _⟩
  case round =>
    obtain ⟨k, hk, rfl, HF, hbx, hN⟩ := hrel
    by_cases hlt : k < n
    · obtain ⟨b, o, x, rfl, hb, hx, hc⟩ := (HR.out.keep hN).at_ hlt
      have g0 := hc 0 _ rfl
      have g1 := hc 1 _ rfl
      simp only [Nat.add_zero] at g0
      have p0 : wr.cell? _ = some _ := hbx.cell 0
      have p1 : wr.cell? _ = some _ := hbx.cell 1
      have l1 : (0 : Int) ≤ (k : Int) := by omega
      have l2 : (k : Int) < (n : Int) := by omega
      have hlt0 := hbx.lt
      have HX := Lib.hid hx
      clear hx hc
      obtain ⟨q, hq⟩ : ∃ q, sameP p x = q := ⟨_, rfl⟩
      have HQ := Lib.hid hq
      unfold sameP at hq
      cases q
      · go_wp2
        (refine wp_region_new (by kernel_rfl) (by kernel_rfl) ?_; (repeat (go_big_quiet_step ((fail)))); refine wpQuiet_nil ?_)
        intro w2 n2
        go_wp2
        go_roundw
        case rel => exact ⟨k + 1, by omega, by go_num, fun j y hj hy => by
          rcases Nat.lt_or_ge j k with h | h
          · exact HF.out j y h hy
          · obtain rfl : j = k := by omega
            have hxy := HX.out
            rw [hy] at hxy
            injection hxy with hxy
            rw [hxy]
            exact HQ.out, hbx.keep n2, hN.trans n2⟩
        case measure => simp [intOf]; omega
      · go_wp2
        (refine wp_region_new (by kernel_rfl) (by kernel_rfl) ?_; (repeat (go_big_quiet_step ((fail)))); refine wpQuiet_nil ?_)
        intro w2 n2
        go_wp2
        go_ret
        exact ⟨by rw [idxS_hit (sameP p) xs k x HX.out HQ.out HF.out]; rfl, hN.trans n2⟩
    · go_wp2
      go_ret
      exact ⟨by rw [idxS_miss (sameP p) xs n HR.out.len (fun j y hj hy => HF.out j y (by omega) hy)]; rfl, hN⟩

set_option maxRecDepth 100000 in
set_option maxHeartbeats 400000 in
theorem containsP (A : Option Addr) (n cap : Nat) (xs : List (Int × Int)) (p : Int × Int) (w : World) (hn : n ≤ 1000000) (hr : Rd w 2 encP A n xs) :
    Calls Try.prog 101 #[.slice A n cap, .agg #[.int .i64 p.1, .int .i64 p.2]] w fun e w' => e = .returned (.bool (xs.any (sameP p))) ∧ New w w' := by
  have HR := Lib.hid hr; clear hr
  have HA := Lib.hid (idxS_any (sameP p) xs)
  go_enter Try.func101, Try.ntmps101
  go_wp2_with (go_at_call 138; refine (indexP A n cap xs p _ hn (HR.out.keep ((New.refl _).alloc _))).mono ?_; rintro e w1 ⟨rfl, hn1⟩)
  go_ret
  exact ⟨by rw [← HA.out]; rfl, ((New.refl _).alloc _).trans hn1⟩
end Go.Proofs.Ytjpkcmlepjbamaa
