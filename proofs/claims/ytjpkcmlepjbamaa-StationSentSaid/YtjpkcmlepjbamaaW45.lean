/- Contracts: cmp.Or; the order of items; the insertion sort. -/
import Derived.Test.YtjpkcmlepjbamaaW44
import Derived.Test.YtjpkcmlepjbamaaSpecO
import Derived.BigRegion
namespace Go.Proofs.Ytjpkcmlepjbamaa
open Go.RowKit Go.Sky

set_option maxHeartbeats 400000 in
theorem or_any (B n cap : Nat) (xs : List Int) (w : World) (hn : n ≤ 1000) (hl : xs.length = n) (hc : ∀ j u, (xs.flatMap encI)[j]? = some u → w.cell? ⟨B, j, none⟩ = some u) :
    Calls Try.prog 127 #[.slice (some ⟨B, 0, none⟩) n cap] w fun e w' => e = .returned (.int .i64 (firstE xs)) ∧ w = w' := by
  have HC := Lib.hid hc; clear hc
  have HL := Lib.hid hl; clear hl
  go_enter Try.func127, Try.ntmps127
  go_wp2
  go_loop [5, 8] (fun _ i => ∃ k : Nat, k ≤ n ∧ i = .int .i64 k ∧ Hid (firstE xs = firstE (xs.drop k))) (fun _ i => n - (intOf i).toNat)
  case atStart => exact ⟨0, by omega, rfl, rfl⟩
  case round =>
    obtain ⟨k, hk, rfl, HF⟩ := hrel
    by_cases hlt : k < n
    · have hkl : k < xs.length := by rw [HL.out]; exact hlt
      have hcell : w.cell? ⟨B, k, none⟩ = some (.int .i64 xs[k]) := HC.out k _ (by
        have := flat_at (k := 1) (enc := encI) (fun _ => rfl) xs k xs[k] (List.getElem?_eq_getElem hkl) 0 _ rfl
        simpa using this)
      have HD := Lib.hid (firstE_drop xs k hkl)
      have HX := Lib.hid HF.out; clear HF
      generalize xs[k] = x at *
      by_cases hx : x = 0
      · have hx1 : (x != 0) = false := by simp [hx]
        have HX2 := Lib.hid hx
        clear hx
        go_wp2
        go_round
        case rel => exact ⟨k + 1, by omega, by go_num, by rw [HX.out, HD.out, if_pos HX2.out]; rfl⟩
        case measure => simp [intOf]; omega
      · have hx1 : (x != 0) = true := by simp [hx]
        go_wp2
        go_ret
        exact ⟨by rw [HX.out, HD.out, if_neg hx]; rfl, rfl⟩
    · go_wp2
      go_ret
      exact ⟨by rw [HF.out, List.drop_of_length_le (by rw [HL.out]; omega)]; rfl, rfl⟩

theorem cmpQ_of {q : List Sky.Item} {a b : Nat} {x y : Sky.Item} (hx : q[a]? = some x) (hy : q[b]? = some y) : cmpQ q a b = firstE [cmpI y.p x.p, cmpI x.t y.t] := by
  unfold cmpQ
  rw [hx, hy, firstE_two]
  dsimp only [Option.getD_some]
  by_cases h : cmpI y.p x.p = 0
  · rw [if_neg (by rw [h]; decide), if_pos h]
  · rw [if_pos h, if_neg h]

set_option maxRecDepth 100000 in
set_option maxHeartbeats 2000000 in
theorem ordClos (q : List Sky.Item) (A : Option Addr) (n cap a b B : Nat) (w : World) (ha : a < n) (hb : b < n) (hn : n ≤ 1000000) (hB : w.cell? ⟨B, 0, none⟩ = some (.slice A n cap)) (hr : Rd w 4 encM A n q) :
    Calls Try.prog 145 #[.int .i64 (a : Int), .int .i64 (b : Int), .pointer (some ⟨B, 0, none⟩)] w fun e w' => e = .returned (.int .i64 (cmpQ q a b)) ∧ New w w' := by
  obtain ⟨ba, oa, x, rfl, hba, hx, hcx⟩ := hr.at_ ha
  obtain ⟨bb, ob, y, e, hbb, hy, hcy⟩ := hr.at_ hb
  injection e with e
  injection e with e1 e2
  subst e1 e2
  have x1 := hcx 1 _ rfl
  have x3 := hcx 3 _ rfl
  have y1 := hcy 1 _ rfl
  have y3 := hcy 3 _ rfl
  have HV := Lib.hid (cmpQ_of hx hy)
  have i0 : (0 : Int) ≤ (a : Int) := by omega
  have i1 : (a : Int) < (n : Int) := by omega
  have j0 : (0 : Int) ≤ (b : Int) := by omega
  have j1 : (b : Int) < (n : Int) := by omega
  have lB := World.block_lt_of_cell? w _ hB
  clear hr hx hy hcx hcy hbb
  go_enter Try.func145, Try.ntmps145
  go_wp2
  (refine wp_region_tail 22 (by kernel_rfl) (by kernel_rfl) ?_; simp only [List.take_succ_cons, List.take_zero, List.drop_succ_cons, List.drop_zero]; (repeat (go_big_quiet_step (((go_at_call 129; exact quiet_same (cmpI_any _ _ _)))))); refine wpQuiet_nil ?_)
  intro w1 n1
  go_wp2_with (go_at_call 127; refine (or_any _ 2 2 [_, _] _ (by omega) rfl (cells_new _ _ _ _ (by simp) _ rfl)).mono ?_; rintro e w' ⟨rfl, rfl⟩; rw [← HV.out])
  go_ret
  exact ⟨rfl, n1.alloc _⟩
end Go.Proofs.Ytjpkcmlepjbamaa
