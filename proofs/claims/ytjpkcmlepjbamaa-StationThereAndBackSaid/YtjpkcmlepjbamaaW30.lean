/- Contracts: the reference of packing: SeriesErr, runs, differences, Packed, CopyPacked. -/
import Derived.Test.YtjpkcmlepjbamaaW9
import Derived.Test.YtjpkcmlepjbamaaW16
import Derived.Test.YtjpkcmlepjbamaaW15
import Derived.Test.YtjpkcmlepjbamaaSpecK
import Derived.Test.YtjpkcmlepjbamaaQAl
namespace Go.Proofs.Ytjpkcmlepjbamaa
open Go.RowKit Go.Sky

theorem ser_large {xs : List Int} (h : 200 < xs.length) : serE xs = 8 := by
  unfold serE
  rw [show decide (((xs.length : Nat) : Int) ≤ 200) = false from decide_eq_false (by omega)]
  rfl
theorem ser_hit {xs : List Int} {x : Int} {k : Nat} (h : ¬ 200 < xs.length) (hx : xs[k]? = some x) (hs : inR x (-1000000000) 1000000000 = false) : serE xs = 2 := by
  unfold serE
  rw [show decide (((xs.length : Nat) : Int) ≤ 200) = true from decide_eq_true (by omega), show xs.any strange = true from List.any_eq_true.2 ⟨x, List.mem_of_getElem? hx, by unfold strange; rw [hs]; rfl⟩]
  rfl
theorem ser_miss {xs : List Int} (h : ¬ 200 < xs.length) (hno : ∀ (j : Nat) x, j < xs.length → xs[j]? = some x → inR x (-1000000000) 1000000000 = true) : serE xs = 0 := by
  unfold serE
  rw [show decide (((xs.length : Nat) : Int) ≤ 200) = true from decide_eq_true (by omega), show xs.any strange = false from List.any_eq_false.2 (fun x hx => by
    obtain ⟨j, hj, rfl⟩ := List.getElem_of_mem hx
    unfold strange
    rw [hno j _ hj (List.getElem?_eq_getElem hj)]
    decide)]
  rfl

set_option maxRecDepth 100000 in
set_option maxHeartbeats 400000 in
theorem refSer_any (A : Option Addr) (n cap : Nat) (xs : List Int) (w : World) (hn : n ≤ 1000000) (hr : Rd w 1 encI A n xs) :
    Calls Try.prog 43 #[.slice A n cap] w fun e w' => e = .returned (.int .i64 (serE xs)) ∧ w = w' := by
  have HL := Lib.hid hr.len
  have HR := Lib.hid hr; clear hr
  by_cases h2 : 200 < n
  · have HV := Lib.hid (ser_large (xs := xs) (by rw [HL.out]; exact h2))
    go_enter Try.func43, Try.ntmps43
    go_wp2_with fail
    go_ret
    exact ⟨by rw [HV.out]; rfl, rfl⟩
  · go_enter Try.func43, Try.ntmps43
    go_wp2
    go_loopw [3] (fun i wr => ∃ k : Nat, k ≤ n ∧ i = .int .i64 (k : Int) ∧ Hid (∀ (j : Nat) x, j < k → xs[j]? = some x → inR x (-1000000000) 1000000000 = true) ∧ wr = w) (fun i _ => n - (intOf i).toNat)
    case atStart => exact ⟨0, by omega, rfl, (fun j x hj => absurd hj (by omega)), rfl⟩
    case round =>
      obtain ⟨k, hk, rfl, HF, rfl⟩ := hrel
      by_cases hlt : k < n
      · obtain ⟨b, o, x, rfl, hb, hx, hc⟩ := HR.out.at_ hlt
        have g0 := hc 0 _ rfl
        simp only [Nat.add_zero, Nat.mul_one] at g0
        have HX := Lib.hid hx
        clear hx hc
        go_wp2_with fail
        refine (bWithin_any _ _ _ _).mono ?_
        rintro e w' ⟨rfl, rfl⟩
        obtain ⟨q, hq⟩ : ∃ q, inR x (-1000000000) 1000000000 = q := ⟨_, rfl⟩
        rw [hq]
        have HQ := Lib.hid hq
        clear hq
        cases q
        · have HV := Lib.hid (ser_hit (xs := xs) (by rw [HL.out]; exact h2) HX.out HQ.out)
          go_wp2
          go_ret
          exact ⟨by rw [HV.out]; rfl, rfl⟩
        · go_wp2
          go_roundw
          case rel => exact ⟨k + 1, by omega, by go_num, fun j y hj hy => by
            rcases Nat.lt_or_ge j k with h | h
            · exact HF.out j y h hy
            · obtain rfl : j = k := by omega
              have hxy := HX.out
              rw [hy] at hxy
              injection hxy with hxy
              rw [hxy]
              exact HQ.out, trivial⟩
          case measure => simp [intOf]; omega
      · have HV := Lib.hid (ser_miss (xs := xs) (by rw [HL.out]; exact h2) (fun j x hj hx => HF.out j x (by rw [HL.out] at hj; omega) hx))
        go_wp2
        go_ret
        exact ⟨by rw [HV.out]; rfl, rfl⟩

set_option maxRecDepth 100000 in
set_option maxHeartbeats 1000000 in
theorem refRuns_any (A : Option Addr) (n cap : Nat) (xs : List Int) (w : World) (hn : n ≤ 100000) (hr : Rd w 1 encI A n xs) :
    Calls Try.prog 99 #[.slice A n cap] w fun e w' => ∃ A' m' cap', e = .returned (.slice A' m' cap') ∧ Sky.Own w' w.heap.size 3 1 encI A' m' cap' (runsS xs) ∧ New w w' := by
  obtain ⟨i0, hi, hz0, hz1, hz2⟩ := info_parts infoInt
  have HL := Lib.hid hr.len
  have HR := Lib.hid hr; clear hr
  go_enter Try.func99, Try.ntmps99
  go_wp2
  go_loopw [3, 4] (fun v i wr => ∃ (k : Nat) (A' : Option Addr) (m cap' : Nat), k ≤ n ∧ i = .int .i64 (k : Int) ∧ v = .slice A' m cap' ∧ m ≤ 2 * k ∧ Sky.Own wr w.heap.size 3 1 encI A' m cap' (runsTo xs k) ∧ New w wr) (fun _ i _ => n - (intOf i).toNat)
  case atStart => exact ⟨0, none, 0, 0, by omega, rfl, rfl, by omega, Sky.Own.nil _ _ _ _ encI_len, New.refl _⟩
  case round =>
    obtain ⟨k, A', m, cap', hk, rfl, rfl, hm, hown, hN⟩ := hrel
    have hml := hown.len
    obtain ⟨h, R⟩ := runs_ok xs k (by rw [HL.out]; exact hk)
    have hm2 : m = 2 * h := by rw [← hml]; exact R.len
    by_cases hlt : k < n
    · obtain ⟨b, o, x, rfl, hb, hx, hc⟩ := (HR.out.keep hN).at_ hlt
      have g0 := hc 0 _ rfl
      simp only [Nat.add_zero, Nat.mul_one] at g0
      have hxd : xs.getD k 0 = x := by rw [List.getD_eq_getElem?_getD, hx]; rfl
      by_cases hk0 : 0 < k
      · have hh := R.pos hk0
        obtain ⟨y, hy⟩ : ∃ y, valU (runsTo xs k) (h - 1) = y := ⟨_, rfl⟩
        have hlast := R.last hk0
        rw [hy] at hlast
        have hye : (runsTo xs k)[m - 2]? = some y := by
          unfold valU at hy
          rw [List.getD_eq_getElem?_getD, List.getElem?_eq_getElem (by omega)] at hy
          rw [List.getElem?_eq_getElem (by omega)]
          refine congrArg some (Eq.trans ?_ hy)
          congr 1
          omega
        have d1 : decide (0 < m) = true := by simp; omega
        rcases hown.form with ⟨_, h0, _⟩ | ⟨g, rfl, hg1, hg2, hg3, hg4⟩
        · omega
        · have c2 := hown.cell1 (m - 2) y _ hye rfl
          have l1 : (0 : Int) ≤ (m : Int) - 2 := by omega
          have l2 : (m : Int) - 2 < (m : Int) := by omega
          have l3 : (0 : Int) ≤ (k : Int) := by omega
          have l4 : (k : Int) < (n : Int) := by omega
          have w1 : IntKind.i64.wrap ((m : Int) - 2) = (m : Int) - 2 := IntWalk.i64_in _ (by omega)
          have w2 : ((m : Int) - 2).toNat = m - 2 := by omega
          by_cases hxy : y = x
          · have d2 : (y == x) = true := by simpa using hxy
            have HS := Lib.hid (show runsTo xs (k + 1) = bump (runsTo xs k) by simp only [runsTo]; rw [if_pos ⟨hk0, by rw [hlast, hx, hxy]⟩])
            have hla := runsTo_last xs k
            rw [hml] at hla
            obtain ⟨q, hq⟩ : ∃ q, (runsTo xs k).getD (m - 1) 0 = q := ⟨_, rfl⟩
            rw [hq] at hla
            obtain ⟨hla0, hla1⟩ := hla
            have hqe : (runsTo xs k)[m - 1]? = some q := by
              rw [List.getD_eq_getElem?_getD, List.getElem?_eq_getElem (by omega)] at hq
              rw [List.getElem?_eq_getElem (by omega)]
              exact congrArg some hq
            have c0 := hown.cell1 (m - 1) q _ hqe rfl
            have f0 := hown.free (m - 1)
            have HB := Lib.hid (show bump (runsTo xs k) = (runsTo xs k).set (m - 1) (q + 1) by unfold bump; rw [hml, hq])
            have l5 : (0 : Int) ≤ (m : Int) - 1 := by omega
            clear hq hqe hml hlast hye hy R hc hx hxd hm2 hxy
            go_wp2
            go_quiet (fail)
            clear w1 w2
            go_wp2
            go_roundw
            case rel => exact ⟨k + 1, _, m, cap', by omega, by go_num, rfl, by omega, by rw [HS.out, HB.out]; exact (hown.drewN _).set1 (m - 1) (q + 1) _ (by omega) rfl, (hN.drewN _).setCell hg1 _⟩
            case measure => simp [intOf]; omega
          · have d2 : (y == x) = false := by simpa using hxy
            have HS := Lib.hid (show runsTo xs (k + 1) = runsTo xs k ++ [x, 1] by
              simp only [runsTo]
              rw [if_neg (fun h => hxy (by have := h.2; rw [hlast, hx] at this; injection this)), hxd])
            clear hml hlast hye hy R hc hx hxd hm2 hxy
            go_wp2
            go_quiet (fail)
            clear w1 w2
            go_wp2_with (at_builtin; refine wpList_push _ rfl _ _ 30 rfl 3 i0 _ 1 8 Try.underlying30 hi hz0 hz1 hz2 rfl (by omega) w.heap.size encI _ m cap' _ rfl (by exact (hown.drewN _).alloc _) _ 2 2 [x, 1] rfl rfl (by omega) (by exact cells_new _ _ _ _ (by simp) _ rfl) encI_one (by unfold maxLen; omega) (by omega) (by have := hN.size; simp; omega) ?_; intro g3 cap2 w3 hown3 hg3 hat3 hb3 hlt3 hN3)
            go_roundw
            case rel => exact ⟨k + 1, _, m + 2, cap2, by omega, by go_num, rfl, by omega, by rw [HS.out]; exact hown3, hN3 _ ((hN.drewN _).alloc _) (Nat.le_refl _)⟩
            case measure => simp [intOf]; omega
      · obtain rfl : k = 0 := by omega
        obtain rfl : m = 0 := by omega
        have d1 : decide ((0 : Int) < ((0 : Nat) : Int)) = false := by simp
        have HS := Lib.hid (show runsTo xs (0 + 1) = runsTo xs 0 ++ [x, 1] by simp only [runsTo]; rw [if_neg (fun h => absurd h.1 (by omega)), hxd])
        clear hml R hc hx hxd hm2
        simp only [Nat.add_zero] at g0
        go_wp2
        go_quiet (fail)
        go_wp2_with (at_builtin; refine wpList_push _ rfl _ _ 30 rfl 3 i0 _ 1 8 Try.underlying30 hi hz0 hz1 hz2 rfl (by omega) w.heap.size encI A' 0 cap' _ rfl (by exact (hown.drewN _).alloc _) _ 2 2 [x, 1] rfl rfl (by omega) (by exact cells_new _ _ _ _ (by simp) _ rfl) encI_one (by unfold maxLen; omega) (by omega) (by have := hN.size; simp; omega) ?_; intro g3 cap2 w3 hown3 hg3 hat3 hb3 hlt3 hN3)
        go_roundw
        case rel => exact ⟨1, _, 2, cap2, by omega, by go_num, rfl, by omega, by rw [show (1 : Nat) = 0 + 1 from rfl, HS.out]; exact hown3, hN3 _ ((hN.drewN _).alloc _) (Nat.le_refl _)⟩
        case measure => simp [intOf]; omega
    · obtain rfl : n = k := by omega
      go_wp2
      go_ret
      exact ⟨A', m, cap', rfl, by unfold runsS; rw [HL.out]; exact hown, hN⟩
end Go.Proofs.Ytjpkcmlepjbamaa
