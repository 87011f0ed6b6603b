/- Contracts of the small functions: within, first, unless, up, isTick, CheckExchange, timeErr, offset. -/
import Derived.Test.YtjpkcmlepjbamaaProg
import Derived.Test.YtjpkcmlepjbamaaMem
import Derived.Test.YtjpkcmlepjbamaaSpecA
import Derived.Test.YtjpkcmlepjbamaaQTail
import Derived.WalkKit
import Derived.WalkLawsBesides
import Derived.WalkSpells
import Derived.BigQuiet
import Derived.Deep.QuietTactic
import Derived.Lib.Hide
namespace Go.Proofs.Ytjpkcmlepjbamaa
open Go.RowKit Go.Sky

def encI (n : Int) : List Value := [.int .i64 n]

theorem within_any (n lo hi : Int) (w : World) : Calls Try.prog 96 #[.int .i64 n, .int .i64 lo, .int .i64 hi] w fun e w' => e = .returned (.bool (inR n lo hi)) ∧ w = w' := by
  by_cases h1 : lo ≤ n
  · go_enter Try.func96, Try.ntmps96
    go_wp2
    go_ret
    exact ⟨by simp [inR, h1], rfl⟩
  · go_enter Try.func96, Try.ntmps96
    go_wp2
    go_ret
    exact ⟨by simp only [inR]; simp; omega, rfl⟩

theorem unless_any (c : Bool) (n : Int) (w : World) : Calls Try.prog 86 #[.bool c, .int .i64 n] w fun e w' => e = .returned (.int .i64 (errU c n)) ∧ w = w' := by
  cases c
  · go_enter Try.func86, Try.ntmps86
    go_wp2
    go_ret
    exact ⟨rfl, rfl⟩
  · go_enter Try.func86, Try.ntmps86
    go_wp2
    go_ret
    exact ⟨rfl, rfl⟩

theorem up_any (n b : Int) (w : World) (h0 : 0 ≤ n) (h1 : n ≤ 2000000000000000) (hb : 1 ≤ b) (hb1 : b ≤ 1000000000000) :
    Calls Try.prog 118 #[.int .i64 n, .int .i64 b] w fun e w' => e = .returned (.int .i64 (upS n b)) ∧ w = w' := by
  go_enter Try.func118, Try.ntmps118
  go_wp2
  go_ret
  exact ⟨rfl, rfl⟩

theorem isTick_any (n : Int) (w : World) : Calls Try.prog 87 #[.int .i64 n] w fun e w' => e = .returned (.bool (tick n)) ∧ w = w' := by
  go_enter Try.func87, Try.ntmps87
  go_wp2_with (go_at_call 96; refine (within_any _ _ _ _).mono ?_; rintro e w' ⟨rfl, rfl⟩)
  go_ret
  exact ⟨rfl, rfl⟩

theorem firstE_drop (xs : List Int) (k : Nat) (hk : k < xs.length) : firstE (xs.drop k) = if xs[k] = 0 then firstE (xs.drop (k + 1)) else xs[k] := by
  rw [List.drop_eq_getElem_cons hk]; rfl

set_option maxHeartbeats 400000 in
theorem first_any (B n cap : Nat) (xs : List Int) (w : World) (hn : n ≤ 1000) (hl : xs.length = n) (hc : ∀ j u, (xs.flatMap encI)[j]? = some u → w.cell? ⟨B, j, none⟩ = some u) :
    Calls Try.prog 85 #[.slice (some ⟨B, 0, none⟩) n cap] w fun e w' => e = .returned (.int .i64 (firstE xs)) ∧ w = w' := by
  have HC := Lib.hid hc; clear hc
  have HL := Lib.hid hl; clear hl
  go_enter Try.func85, Try.ntmps85
  go_wp2
  go_loop [4, 7] (fun _ i => ∃ k : Nat, k ≤ n ∧ i = .int .i64 k ∧ Hid (firstE xs = firstE (xs.drop k))) (fun _ i => n - (intOf i).toNat)
  case atStart => exact ⟨0, by omega, rfl, rfl⟩
  case round =>
    obtain ⟨k, hk, rfl, HF⟩ := hrel
    by_cases hlt : k < n
    · have hkl : k < xs.length := by rw [HL.out]; exact hlt
      have hcell : w.cell? ⟨B, k, none⟩ = some (.int .i64 xs[k]) := HC.out k _ (by
        have := flat_at (k := 1) (enc := encI) (fun _ => rfl) xs k xs[k] (List.getElem?_eq_getElem hkl) 0 _ rfl
        simpa using this)
      have HD := Lib.hid (firstE_drop xs k hkl)
      have HX := Lib.hid HF.out; clear HF
      generalize xs[k] = x at *
      by_cases hx : x = 0
      · have hx1 : (x != 0) = false := by simp [hx]
        have HX2 := Lib.hid hx
        clear hx
        go_wp2
        go_round
        case rel => exact ⟨k + 1, by omega, by go_num, by rw [HX.out, HD.out, if_pos HX2.out]; rfl⟩
        case measure => simp [intOf]; omega
      · have hx1 : (x != 0) = true := by simp [hx]
        go_wp2
        go_ret
        exact ⟨by rw [HX.out, HD.out, if_neg hx]; rfl, rfl⟩
    · go_wp2
      go_ret
      exact ⟨by rw [HF.out, List.drop_of_length_le (by rw [HL.out]; omega)]; rfl, rfl⟩

theorem cells_new (w : World) (cs : Array Value) (t : TypeId) (B : Nat) (hB : B = w.heap.size) (l : List Value) (hl : cs.toList = l) : ∀ j u, l[j]? = some u → (w.alloc (.cells cs t)).cell? ⟨B, j, none⟩ = some u := by
  subst hB; subst hl
  intro j u hu
  rw [World.cell?_alloc_at _ _ _ _ rfl]
  simpa using hu

theorem isTick_is (n : Int) (c : Bool) (w : World) (h : tick n = c) : Calls Try.prog 87 #[.int .i64 n] w fun e w' => e = .returned (.bool c) ∧ w = w' := h ▸ isTick_any n w
theorem within_is (n lo hi : Int) (c : Bool) (w : World) (h : inR n lo hi = c) : Calls Try.prog 96 #[.int .i64 n, .int .i64 lo, .int .i64 hi] w fun e w' => e = .returned (.bool c) ∧ w = w' := h ▸ within_any n lo hi w

set_option maxHeartbeats 400000 in
theorem checkEx_any (x : Exch) (w : World) : Calls Try.prog 29 #[.agg #[.int .i64 x.s, .int .i64 x.t, .int .i64 x.r]] w fun e w' => e = .returned (.int .i64 (exErr x)) ∧ New w w' := by
  obtain ⟨s, t, r⟩ := x
  have hall : ∀ c, (tick s && tick t && tick r) = c → Calls Try.prog 29 #[.agg #[.int .i64 s, .int .i64 t, .int .i64 r]] w fun e w' => e = .returned (.int .i64 (firstE [errU c 2, errU (decide (s ≤ r)) 9])) ∧ New w w' := by
    intro c hc
    obtain ⟨rfl, hs⟩ | ⟨rfl, hs, ht⟩ | ⟨hs, ht, hr⟩ : (c = false ∧ tick s = false) ∨ (c = false ∧ tick s = true ∧ tick t = false) ∨ (tick s = true ∧ tick t = true ∧ tick r = c) := by
      revert hc
      cases tick s <;> cases tick t <;> cases tick r <;> cases c <;> simp
    all_goals
      clear hc
      go_enter Try.func29, Try.ntmps29
      go_wp2
      (refine wp_region_tail 20 (by kernel_rfl) (by kernel_rfl) ?_; simp only [List.take_succ_cons, List.take_zero, List.drop_succ_cons, List.drop_zero]; (repeat (go_big_quiet_step ((first | (go_at_call 87; exact quiet_same (isTick_is _ true _ (by assumption))) | (go_at_call 87; exact quiet_same (isTick_is _ false _ (by assumption))) | (go_at_call 87; exact quiet_same (isTick_is _ c _ (by assumption))) | (go_at_call 86; exact quiet_same (unless_any _ _ _)))))); refine wpQuiet_nil ?_)
      rintro w1 n1
      go_wp2_with (go_at_call 85; refine (first_any _ 2 2 [_, _] _ (by omega) rfl (cells_new _ _ _ _ (by simp) _ rfl)).mono ?_; rintro e w' ⟨rfl, rfl⟩)
      go_ret
      exact ⟨rfl, New.trans ((New.refl _).alloc _) (n1.alloc _)⟩
  exact hall _ rfl
end Go.Proofs.Ytjpkcmlepjbamaa
