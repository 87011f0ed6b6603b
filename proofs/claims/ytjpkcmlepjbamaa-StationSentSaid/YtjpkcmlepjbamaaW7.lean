/- Contracts: runs and differences of the program. -/
import Derived.Test.YtjpkcmlepjbamaaW6
import Derived.Test.YtjpkcmlepjbamaaSpecB
namespace Go.Proofs.Ytjpkcmlepjbamaa
open Go.RowKit Go.Sky

set_option maxRecDepth 100000 in
set_option maxHeartbeats 1000000 in
theorem runs_any (A : Option Addr) (n cap : Nat) (xs : List Int) (w : World) (hn : n ≤ 100000) (hr : Rd w 1 encI A n xs) :
    Calls Try.prog 94 #[.slice A n cap] w fun e w' => ∃ A' m' cap', e = .returned (.slice A' m' cap') ∧ Own w' w.heap.size 3 1 encI A' m' cap' (runsS xs) ∧ New w w' := by
  obtain ⟨i0, hi, hz0, hz1, hz2⟩ := info_parts infoInt
  have HL := Lib.hid hr.len
  have HR := Lib.hid hr; clear hr
  go_enter Try.func94, Try.ntmps94
  go_wp2
  go_loopw [3, 4, 5, 8] (fun v _ _ i wr => ∃ (k : Nat) (A' : Option Addr) (m cap' : Nat), k ≤ n ∧ i = .int .i64 k ∧ v = .slice A' m cap' ∧ m ≤ 2 * k ∧ Own wr w.heap.size 3 1 encI A' m cap' (runsTo xs k) ∧ New w wr) (fun _ _ _ i _ => n - (intOf i).toNat)
  case atStart => exact ⟨0, none, 0, 0, by omega, rfl, rfl, by omega, Own.nil _ _ _ _ encI_len, New.refl _⟩
  case round =>
    obtain ⟨k, A', m, cap', hk, rfl, rfl, hm, hown, hN⟩ := hrel
    by_cases hlt : k < n
    · obtain ⟨b, o, rfl, hb, hc⟩ := (HR.out.keep hN).some_ (by omega)
      obtain ⟨x, hx⟩ : ∃ x, xs[k]? = some x := ⟨_, List.getElem?_eq_getElem (by rw [HL.out]; omega)⟩
      have g0 := hc k x hx 0 _ rfl
      simp only [Nat.add_zero, Nat.mul_one] at g0
      have hxd := Lib.hid (show xs.getD k 0 = x by rw [List.getD_eq_getElem?_getD, hx]; rfl)
      by_cases hsame : 0 < k ∧ xs[k - 1]? = xs[k]?
      · have g1 := hc (k - 1) x (by rw [hsame.2, hx]) 0 _ rfl
        simp only [Nat.add_zero, Nat.mul_one] at g1
        have d2 : (x == x) = true := by simp
        have hk0 := hsame.1
        have HS := Lib.hid (show runsTo xs (k + 1) = bump (runsTo xs k) by simp only [runsTo]; rw [if_pos hsame])
        have hp := runsTo_pos xs k hsame.1
        have hla := runsTo_last xs k
        clear hsame hc hx
        have hml := hown.len
        rw [hml] at hp hla
        obtain ⟨q, hq⟩ : ∃ q, (runsTo xs k).getD (m - 1) 0 = q := ⟨_, rfl⟩
        rw [hq] at hla
        obtain ⟨hla0, hla1⟩ := hla
        have hqe : (runsTo xs k)[m - 1]? = some q := by
          rw [List.getD_eq_getElem?_getD, List.getElem?_eq_getElem (by omega)] at hq
          rw [List.getElem?_eq_getElem (by omega)]
          exact congrArg some hq
        rcases hown.form with ⟨_, h0, _⟩ | ⟨g, rfl, hg1, hg2, hg3, hg4⟩
        · omega
        · have c0 := hown.cell1 (m - 1) q _ hqe rfl
          have f0 := hown.free (m - 1)
          have HB := Lib.hid (show bump (runsTo xs k) = (runsTo xs k).set (m - 1) (q + 1) by unfold bump; rw [hml, hq])
          have l1 : (0 : Int) ≤ (m : Int) - 1 := by omega
          clear hq hqe hml
          go_wp2
          go_roundw
          case rel => exact ⟨k + 1, _, m, cap', by omega, by go_num, rfl, by omega, by rw [HS.out, HB.out]; exact hown.set1 (m - 1) (q + 1) _ (by omega) rfl, hN.setCell hg1 _⟩
          case measure => simp [intOf]; omega
      · have HS := Lib.hid (show runsTo xs (k + 1) = runsTo xs k ++ [x, 1] by simp only [runsTo]; rw [if_neg hsame, hxd.out])
        obtain ⟨hk0, y, g1, d2⟩ | hk0 : (0 < k ∧ ∃ y, wr.cell? ⟨b, o + (k - 1), none⟩ = some (.int .i64 y) ∧ (y == x) = false) ∨ ¬ 0 < k := by
          by_cases hk0 : 0 < k
          · left
            obtain ⟨y, hy⟩ : ∃ y, xs[k - 1]? = some y := ⟨_, List.getElem?_eq_getElem (by rw [HL.out]; omega)⟩
            have g1 := hc (k - 1) y hy 0 _ rfl
            simp only [Nat.add_zero, Nat.mul_one] at g1
            exact ⟨hk0, y, g1, by simp; intro e; subst e; exact hsame ⟨hk0, by rw [hy, hx]⟩⟩
          · exact .inr hk0
        all_goals
          clear hsame hc hx
          have d1 : decide ((0 : Int) < (k : Int)) = decide (0 < k) := by simp
          simp only [hk0, decide_true, decide_false] at d1
          go_wp2_with (at_builtin; refine wpList_push _ rfl _ _ 30 rfl 3 i0 _ 1 8 Try.underlying30 hi hz0 hz1 hz2 rfl (by omega) w.heap.size encI A' m cap' _ rfl (by exact hown.alloc _) _ 2 2 [x, 1] rfl rfl (by omega) (by exact cells_new _ _ _ _ (by simp) _ rfl) encI_one (by unfold maxLen; omega) (by omega) (by have := hN.size; simp; omega) ?_; intro g cap2 w3 hown3 hg3 hat3 hb3 hlt3 hN3)
          go_roundw
          case rel => exact ⟨k + 1, _, m + 2, cap2, by omega, by go_num, rfl, by omega, by rw [HS.out]; exact hown3, hN3 _ (hN.alloc _) (Nat.le_refl _)⟩
          case measure => simp [intOf]; omega
    · obtain rfl : n = k := by omega
      go_wp2
      go_ret
      exact ⟨A', m, cap', rfl, by unfold runsS; rw [HL.out]; exact hown, hN⟩
end Go.Proofs.Ytjpkcmlepjbamaa
