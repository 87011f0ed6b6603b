/- Contracts: differences of the program. -/
import Derived.Test.YtjpkcmlepjbamaaW7
namespace Go.Proofs.Ytjpkcmlepjbamaa
open Go.RowKit Go.Sky

theorem abs_getD (xs : List Int) (hb : ∀ x ∈ xs, -1000000000 ≤ x ∧ x ≤ 1000000000) (j : Nat) : -1000000000 ≤ xs.getD j 0 ∧ xs.getD j 0 ≤ 1000000000 := by
  rw [List.getD_eq_getElem?_getD]
  cases h : xs[j]? with
  | none => simp
  | some x => exact hb x (List.mem_of_getElem? h)

set_option maxRecDepth 100000 in
set_option maxHeartbeats 1000000 in
theorem differences_any (A : Option Addr) (n cap : Nat) (xs : List Int) (w : World) (hn : n ≤ 100000) (hr : Rd w 1 encI A n xs) (hbd : ∀ x ∈ xs, -1000000000 ≤ x ∧ x ≤ 1000000000) :
    Calls Try.prog 95 #[.slice A n cap] w fun e w' => ∃ A' cap', e = .returned (.slice A' n cap') ∧ Own w' w.heap.size 3 1 encI A' n cap' (diffS xs) ∧ New w w' := by
  have HL := Lib.hid hr.len
  have HR := Lib.hid hr; clear hr
  have HB := Lib.hid (abs_getD xs hbd); clear hbd
  go_enter Try.func95, Try.ntmps95
  go_wp2_with fail
  refine (cloneI_any A n cap xs _ (by omega) HR.out).mono ?_
  rintro e w1 ⟨A1, cap1, rfl, hown, hN1⟩
  by_cases hn0 : n = 0
  · subst hn0
    have hd : diffS xs = xs := diffFrom_all xs 0 (by rw [HL.out]; omega)
    have HD := Lib.hid hd; clear hd
    go_wp2
    go_loopw [4] (fun i wr => i = .int .i64 (-1) ∧ wr = w1) (fun _ _ => 0)
    case atStart => exact ⟨rfl, rfl⟩
    case round =>
      obtain ⟨rfl, rfl⟩ := hrel
      go_wp2
      go_ret
      exact ⟨A1, cap1, rfl, by rw [HD.out]; exact hown, hN1⟩
  · have hnp : 0 < n := by omega
    clear hn0
    rcases hown.form with ⟨_, h0, _⟩ | ⟨g, rfl, hg1, hg2, hg3, hg4⟩
    · omega
    · have HOW := Lib.hid hown
      clear hown
      go_wp2
      go_loopw [4] (fun i wr => ∃ k : Nat, k < n ∧ i = .int .i64 k ∧ Own wr w.heap.size 3 1 encI (some ⟨g, 0, none⟩) n cap1 (diffFrom xs k) ∧ New w wr ∧ g < wr.heap.size) (fun i _ => (intOf i).toNat)
      case atStart => exact ⟨n - 1, by omega, by rw [show ((n - 1 : Nat) : Int) = (n : Int) - 1 by omega], by rw [diffFrom_all xs (n - 1) (by rw [HL.out]; omega)]; exact HOW.out, hN1, hg2⟩
      case round =>
        obtain ⟨k, hk, rfl, hown, hN, hgl⟩ := hrel
        by_cases hk0 : 0 < k
        · obtain ⟨j, rfl⟩ : ∃ j, k = j + 1 := ⟨k - 1, by omega⟩
          have c1 := hown.cell1 (j + 1) _ _ (diffFrom_at xs (j + 1) (j + 1) (by rw [HL.out]; exact hk)) rfl
          have c0 := hown.cell1 j _ _ (diffFrom_at xs (j + 1) j (by rw [HL.out]; omega)) rfl
          rw [if_neg (by omega)] at c0 c1
          have f1 := hown.free (j + 1)
          obtain ⟨b1, b2⟩ := HB.out (j + 1)
          obtain ⟨b3, b4⟩ := HB.out j
          have HS := Lib.hid (diffFrom_set xs j (by rw [HL.out]; exact hk))
          generalize xs.getD (j + 1) 0 = x at *
          generalize xs.getD j 0 = y at *
          go_wp2
          (refine wp_region_tail 11 (by kernel_rfl) (by kernel_rfl) ?_; simp only [List.take_succ_cons, List.take_zero, List.drop_succ_cons, List.drop_zero]; (repeat (go_big_quiet_step ((fail)))); refine wpQuiet_nil ?_)
          intro w2 n2
          have c1' := n2.cell c1
          have f1' := (n2.marks _ (j + 1) hgl).trans f1
          go_wp2
          go_roundw
          case rel => exact ⟨j, by omega, rfl, by rw [← HS.out]; exact (hown.keep n2).set1 (j + 1) (x - y) _ (by omega) rfl, (hN.trans n2).setCell hg1 _, by simp [World.setCell]; exact Nat.lt_of_lt_of_le hgl n2.size⟩
          case measure => simp [intOf]
        · obtain rfl : k = 0 := by omega
          have HS := Lib.hid (show diffS xs = diffFrom xs 0 from rfl)
          go_wp2
          go_ret
          exact ⟨_, cap1, rfl, by rw [HS.out]; exact hown, hN⟩
end Go.Proofs.Ytjpkcmlepjbamaa
