/- Contracts on slices of numbers: Clone, CopyInts, IndexFunc, ContainsFunc, seriesErr, Ints. -/
import Derived.Test.YtjpkcmlepjbamaaW1
namespace Go.Proofs.Ytjpkcmlepjbamaa
open Go.RowKit Go.Sky

theorem infoInt : (Try.prog.info? 3).map (fun i => (i.zero, i.size, i.bytes)) = some (some (.int .i64 0), 1, 8) := by kernel_rfl
theorem encI_len (x : Int) : (encI x).length = 1 := rfl
theorem encI_one (x : Int) : ∀ u ∈ encI x, u.oneCell' = true := by intro u hu; simp [encI] at hu; subst hu; rfl

set_option maxHeartbeats 400000 in
theorem cloneI_any (A : Option Addr) (n cap : Nat) (xs : List Int) (w : World) (hn : n ≤ 1000000) (hr : Rd w 1 encI A n xs) :
    Calls Try.prog 93 #[.slice A n cap] w fun e w' => ∃ A' cap', e = .returned (.slice A' n cap') ∧ Own w' w.heap.size 3 1 encI A' n cap' xs ∧ New w w' := by
  obtain ⟨i0, hi, hz0, hz1, hz2⟩ := info_parts infoInt
  have hnil := fun W => Lib.run_eql_slice_nil (P := Try.prog) W 30 3 A n cap 0 0 Try.underlying30
  cases A with
  | none =>
    have h0 : n = 0 := by
      rcases Nat.eq_zero_or_pos n with h | h
      · exact h
      · obtain ⟨b, o, e, _⟩ := hr.some_ h; cases e
    subst h0
    have hxs : xs = [] := List.eq_nil_of_length_eq_zero hr.1
    subst hxs
    clear hr hi hz0 hz1 hz2
    simp only [Option.isNone_none] at hnil
    go_enter Try.func93, Try.ntmps93
    go_wp2
    go_ret
    exact ⟨none, 0, rfl, Own.nil _ _ _ _ encI_len, New.refl _⟩
  | some a =>
    have HR := Lib.hid hr; clear hr
    simp only [Option.isNone_some] at hnil
    go_enter Try.func93, Try.ntmps93
    go_wp2_with (at_builtin; refine wpList_pour _ rfl _ _ 30 rfl 3 i0 _ 1 8 Try.underlying30 hi hz0 hz1 hz2 rfl (by omega) w.heap.size encI _ 0 0 [] rfl (by exact Own.empty _ _ _ _ encI_len _ (by simp) (by simp)) (some a) n cap xs rfl (by exact HR.out.keep ((New.refl _).alloc _)) encI_one (by unfold maxLen; omega) (by omega) (by simp) ?_; intro A2 cap2 w2 hown2 hg2 hN2)
    go_ret
    refine ⟨A2, cap2, rfl, ?_, hN2 w ((New.refl w).alloc _) (Nat.le_refl _)⟩
    rw [Nat.zero_add] at hown2
    exact hown2

set_option maxHeartbeats 400000 in
theorem copyInts_any (A : Option Addr) (n cap : Nat) (xs : List Int) (w : World) (hn : n ≤ 1000000) (hr : Rd w 1 encI A n xs) :
    Calls Try.prog 38 #[.slice A n cap] w fun e w' => ∃ A' cap', e = .returned (.slice A' n cap') ∧ Own w' w.heap.size 3 1 encI A' n cap' xs ∧ New w w' := by
  obtain ⟨i0, hi, hz0, hz1, hz2⟩ := info_parts infoInt
  have HR := Lib.hid hr; clear hr
  go_enter Try.func38, Try.ntmps38
  go_wp2_with (at_builtin; refine wpList_pour _ rfl _ _ 30 rfl 3 i0 _ 1 8 Try.underlying30 hi hz0 hz1 hz2 rfl (by omega) w.heap.size encI _ 0 0 [] rfl (by exact Own.empty _ _ _ _ encI_len _ (by simp) (by simp)) A n cap xs rfl (by exact HR.out.keep ((New.refl _).alloc _)) encI_one (by unfold maxLen; omega) (by omega) (by simp) ?_; intro A2 cap2 w2 hown2 hg2 hN2)
  go_ret
  refine ⟨A2, cap2, rfl, ?_, hN2 w ((New.refl w).alloc _) (Nat.le_refl _)⟩
  rw [Nat.zero_add] at hown2
  exact hown2

theorem isValue_any (n : Int) (w : World) : Calls Try.prog 98 #[.int .i64 n] w fun e w' => e = .returned (.bool (inR n (-1000000000) 1000000000)) ∧ w = w' := by
  go_enter Try.func98, Try.ntmps98
  go_wp2_with (go_at_call 96; refine (within_any _ _ _ _).mono ?_; rintro e w' ⟨rfl, rfl⟩)
  go_ret
  exact ⟨rfl, rfl⟩

theorem strange_any (n : Int) (w : World) : Calls Try.prog 136 #[.int .i64 n] w fun e w' => e = .returned (.bool (!inR n (-1000000000) 1000000000)) ∧ New w w' := by
  go_enter Try.func136, Try.ntmps136
  go_wp2_with (go_at_call 98; refine (isValue_any _ _).mono ?_; rintro e w' ⟨rfl, rfl⟩)
  go_ret
  exact ⟨rfl, New.refl _⟩

/-- The first index at which p holds, or -1: a search for a closure's answer. -/
def idxS {α : Type} (p : α → Bool) (xs : List α) : Int := match xs.findIdx? p with | some i => (i : Int) | none => -1

theorem idxS_hit {α : Type} (p : α → Bool) (xs : List α) (k : Nat) (x : α) (hx : xs[k]? = some x) (hp : p x = true) (hno : ∀ j y, j < k → xs[j]? = some y → p y = false) : idxS p xs = k := by
  have h : xs.findIdx? p = some k := by
    rw [List.findIdx?_eq_some_iff_getElem]
    obtain ⟨hk, rfl⟩ := List.getElem?_eq_some_iff.1 hx
    exact ⟨hk, hp, fun j hj => by simp [hno j xs[j] hj (List.getElem?_eq_getElem (by omega))]⟩
  unfold idxS; rw [h]
theorem idxS_miss {α : Type} (p : α → Bool) (xs : List α) (n : Nat) (hl : xs.length = n) (hno : ∀ j y, j < n → xs[j]? = some y → p y = false) : idxS p xs = -1 := by
  have h : xs.findIdx? p = none := by
    rw [List.findIdx?_eq_none_iff]
    intro x hx
    obtain ⟨j, hj, rfl⟩ := List.getElem_of_mem hx
    exact hno j _ (by omega) (List.getElem?_eq_getElem hj)
  unfold idxS; rw [h]
theorem idxS_any {α : Type} (p : α → Bool) (xs : List α) : decide (0 ≤ idxS p xs) = xs.any p := by
  unfold idxS
  cases h : xs.findIdx? p with
  | none =>
    rw [List.findIdx?_eq_none_iff] at h
    simp only [show ¬ (0 : Int) ≤ -1 by omega, decide_false]
    symm
    rw [List.any_eq_false]
    intro x hx
    simp [h x hx]
  | some i =>
    rw [List.findIdx?_eq_some_iff_getElem] at h
    obtain ⟨hi, hp, _⟩ := h
    simp only [show (0 : Int) ≤ (i : Int) by omega, decide_true]
    symm
    rw [List.any_eq_true]
    exact ⟨_, List.getElem_mem hi, hp⟩

set_option maxRecDepth 100000 in
set_option maxHeartbeats 400000 in
theorem idxFuncI (g : Nat) (cb : Array Value) (p : Int → Bool) (A : Option Addr) (n cap : Nat) (xs : List Int) (w : World) (hn : n ≤ 1000000) (hr : Rd w 1 encI A n xs) (eg : ∀ (args : Array Value) (W : World), (callFunc g args).run Try.prog W = .ok (.enter g args) W)
    (hp : ∀ x W, New w W → Calls Try.prog g (#[.int .i64 x] ++ cb) W fun e w' => e = .returned (.bool (p x)) ∧ New W w') :
    Calls Try.prog 103 #[.slice A n cap, .func (.func g) #[] cb] w fun e w' => e = .returned (.int .i64 (idxS p xs)) ∧ New w w' := by
  have HR := Lib.hid hr; clear hr
  have HP := Lib.hid hp; clear hp
  go_enter Try.func103, Try.ntmps103
  go_wp2
  go_loopw [5, 8] (fun _ i wr => ∃ k : Nat, k ≤ n ∧ i = .int .i64 k ∧ Hid (∀ j x, j < k → xs[j]? = some x → p x = false) ∧ New w wr) (fun _ i _ => n - (intOf i).toNat)
  case atStart => exact ⟨0, by omega, rfl, (fun j x hj => absurd hj (by omega)), New.refl _⟩
  case round =>
    obtain ⟨k, hk, rfl, HF, hN⟩ := hrel
    by_cases hlt : k < n
    · obtain ⟨b, o, x, rfl, hb, hx, hc⟩ := (HR.out.keep hN).at_ hlt
      have g0 := hc 0 _ rfl
      simp only [Nat.add_zero, Nat.mul_one] at g0
      have HX := Lib.hid hx
      clear hx hc
      obtain ⟨q, hq⟩ : ∃ q, p x = q := ⟨_, rfl⟩
      have HQ := Lib.hid hq
      cases q
      all_goals
        go_wp2_with fail
        refine (HP.out x _ hN).mono ?_
        rintro e w1 ⟨he, hn1⟩
        rw [HQ.out] at he
        subst he
        clear hq
      · go_wp2
        go_roundw
        case rel => exact ⟨k + 1, by omega, by go_num, fun j y hj hy => by
          rcases Nat.lt_or_ge j k with h | h
          · exact HF.out j y h hy
          · obtain rfl : j = k := by omega
            have hxy := HX.out
            rw [hy] at hxy
            injection hxy with hxy
            rw [hxy]
            exact HQ.out, hN.trans hn1⟩
        case measure => simp [intOf]; omega
      · go_wp2
        go_ret
        exact ⟨by rw [idxS_hit p xs k x HX.out HQ.out HF.out]; rfl, hN.trans hn1⟩
    · go_wp2
      go_ret
      exact ⟨by rw [idxS_miss p xs n HR.out.len (fun j y hj hy => HF.out j y (by omega) hy)]; rfl, hN⟩
end Go.Proofs.Ytjpkcmlepjbamaa
