/- Contracts of the small functions: within, first, unless, up, isTick, CheckExchange, timeErr, offset.
   Contracts on slices of numbers: Clone, CopyInts, IndexFunc, ContainsFunc, seriesErr, Ints.
   Contracts: timeErr, offset, common.
   Contracts: offsets, OffsetAt, TrueAt, OffsetBy.
   Contracts: OffsetAt, TrueAt, OffsetBy.
   Contracts: ContainsFunc at numbers, seriesErr, Ints, SamePacked.
   Contracts: runs and differences of the program.
   Contracts: differences of the program.
   Contract: Packed. -/
import Derived.BigQuiet
import Derived.Deep.AppendLies
import Derived.Deep.Draws
import Derived.Deep.Quiet
import Derived.Deep.QuietTactic
import Derived.Lib.Hide
import Derived.StillTail
import Derived.Test.YtkahjpbnlclhhaaDoorProg
import Derived.WalkKit
import Derived.WalkLawsBesides
import Derived.WalkSpells
import Derived.Test.YtkahjpbnlclhhaaDoorC17A
import Derived.Test.YtkahjpbnlclhhaaDoorC17C
import Derived.Test.YtkahjpbnlclhhaaDoorC17F

namespace Go.Proofs.YtkahjpbnlclhhaaDoor
open Go.RowKit Go.Sky

def encI (n : Int) : List Value := [.int .i64 n]

theorem within_any (n lo hi : Int) (w : World) : Calls Tryd.prog 53 #[.int .i64 n, .int .i64 lo, .int .i64 hi] w fun e w' => e = .returned (.bool (inR n lo hi)) ∧ w = w' := by
  by_cases h1 : lo ≤ n
  · go_enter Tryd.func53, Tryd.ntmps53
    go_wp2
    go_ret
    exact ⟨by simp [inR, h1], rfl⟩
  · go_enter Tryd.func53, Tryd.ntmps53
    go_wp2
    go_ret
    exact ⟨by simp only [inR]; simp; omega, rfl⟩

theorem unless_any (c : Bool) (n : Int) (w : World) : Calls Tryd.prog 42 #[.bool c, .int .i64 n] w fun e w' => e = .returned (.int .i64 (errU c n)) ∧ w = w' := by
  cases c
  · go_enter Tryd.func42, Tryd.ntmps42
    go_wp2
    go_ret
    exact ⟨rfl, rfl⟩
  · go_enter Tryd.func42, Tryd.ntmps42
    go_wp2
    go_ret
    exact ⟨rfl, rfl⟩

theorem up_any (n b : Int) (w : World) (h0 : 0 ≤ n) (h1 : n ≤ 2000000000000000) (hb : 1 ≤ b) (hb1 : b ≤ 1000000000000) :
    Calls Tryd.prog 54 #[.int .i64 n, .int .i64 b] w fun e w' => e = .returned (.int .i64 (upS n b)) ∧ w = w' := by
  go_enter Tryd.func54, Tryd.ntmps54
  go_wp2
  go_ret
  exact ⟨rfl, rfl⟩

theorem isTick_any (n : Int) (w : World) : Calls Tryd.prog 102 #[.int .i64 n] w fun e w' => e = .returned (.bool (tick n)) ∧ w = w' := by
  go_enter Tryd.func102, Tryd.ntmps102
  go_wp2_with (go_at_call 53; refine (within_any _ _ _ _).mono ?_; rintro e w' ⟨rfl, rfl⟩)
  go_ret
  exact ⟨rfl, rfl⟩

theorem firstE_drop (xs : List Int) (k : Nat) (hk : k < xs.length) : firstE (xs.drop k) = if xs[k] = 0 then firstE (xs.drop (k + 1)) else xs[k] := by
  rw [List.drop_eq_getElem_cons hk]; rfl

set_option maxHeartbeats 400000 in
theorem first_any (B n cap : Nat) (xs : List Int) (w : World) (hn : n ≤ 1000) (hl : xs.length = n) (hc : ∀ j u, (xs.flatMap encI)[j]? = some u → w.cell? ⟨B, j, none⟩ = some u) :
    Calls Tryd.prog 41 #[.slice (some ⟨B, 0, none⟩) n cap] w fun e w' => e = .returned (.int .i64 (firstE xs)) ∧ w = w' := by
  have HC := Lib.hid hc; clear hc
  have HL := Lib.hid hl; clear hl
  go_enter Tryd.func41, Tryd.ntmps41
  go_wp2
  go_loop [4, 7] (fun _ i => ∃ k : Nat, k ≤ n ∧ i = .int .i64 k ∧ Hid (firstE xs = firstE (xs.drop k))) (fun _ i => n - (intOf i).toNat)
  case atStart => exact ⟨0, by omega, rfl, rfl⟩
  case round =>
    obtain ⟨k, hk, rfl, HF⟩ := hrel
    by_cases hlt : k < n
    · have hkl : k < xs.length := by rw [HL.out]; exact hlt
      have hcell : w.cell? ⟨B, k, none⟩ = some (.int .i64 xs[k]) := HC.out k _ (by
        have := flat_at (k := 1) (enc := encI) (fun _ => rfl) xs k xs[k] (List.getElem?_eq_getElem hkl) 0 _ rfl
        simpa using this)
      have HD := Lib.hid (firstE_drop xs k hkl)
      have HX := Lib.hid HF.out; clear HF
      generalize xs[k] = x at *
      by_cases hx : x = 0
      · have hx1 : (x != 0) = false := by simp [hx]
        have HX2 := Lib.hid hx
        clear hx
        go_wp2
        go_round
        case rel => exact ⟨k + 1, by omega, by go_num, by rw [HX.out, HD.out, if_pos HX2.out]; rfl⟩
        case measure => simp [intOf]; omega
      · have hx1 : (x != 0) = true := by simp [hx]
        go_wp2
        go_ret
        exact ⟨by rw [HX.out, HD.out, if_neg hx]; rfl, rfl⟩
    · go_wp2
      go_ret
      exact ⟨by rw [HF.out, List.drop_of_length_le (by rw [HL.out]; omega)]; rfl, rfl⟩

theorem cells_new (w : World) (cs : Array Value) (t : TypeId) (B : Nat) (hB : B = w.heap.size) (l : List Value) (hl : cs.toList = l) : ∀ j u, l[j]? = some u → (w.alloc (.cells cs t)).cell? ⟨B, j, none⟩ = some u := by
  subst hB; subst hl
  intro j u hu
  rw [World.cell?_alloc_at _ _ _ _ rfl]
  simpa using hu

theorem isTick_is (n : Int) (c : Bool) (w : World) (h : tick n = c) : Calls Tryd.prog 102 #[.int .i64 n] w fun e w' => e = .returned (.bool c) ∧ w = w' := h ▸ isTick_any n w
theorem within_is (n lo hi : Int) (c : Bool) (w : World) (h : inR n lo hi = c) : Calls Tryd.prog 53 #[.int .i64 n, .int .i64 lo, .int .i64 hi] w fun e w' => e = .returned (.bool c) ∧ w = w' := h ▸ within_any n lo hi w

set_option maxHeartbeats 400000 in
theorem checkEx_any (x : Exch) (w : World) : Calls Tryd.prog 83 #[.agg #[.int .i64 x.s, .int .i64 x.t, .int .i64 x.r]] w fun e w' => e = .returned (.int .i64 (exErr x)) ∧ New w w' := by
  obtain ⟨s, t, r⟩ := x
  have hall : ∀ c, (tick s && tick t && tick r) = c → Calls Tryd.prog 83 #[.agg #[.int .i64 s, .int .i64 t, .int .i64 r]] w fun e w' => e = .returned (.int .i64 (firstE [errU c 2, errU (decide (s ≤ r)) 9])) ∧ New w w' := by
    intro c hc
    obtain ⟨rfl, hs⟩ | ⟨rfl, hs, ht⟩ | ⟨hs, ht, hr⟩ : (c = false ∧ tick s = false) ∨ (c = false ∧ tick s = true ∧ tick t = false) ∨ (tick s = true ∧ tick t = true ∧ tick r = c) := by
      revert hc
      cases tick s <;> cases tick t <;> cases tick r <;> cases c <;> simp
    all_goals
      clear hc
      go_enter Tryd.func83, Tryd.ntmps83
      go_wp2
      (refine wp_region_tail 20 (by kernel_rfl) (by kernel_rfl) ?_; simp only [List.take_succ_cons, List.take_zero, List.drop_succ_cons, List.drop_zero]; (repeat (go_big_quiet_step ((first | (go_at_call 102; exact quiet_same (isTick_is _ true _ (by assumption))) | (go_at_call 102; exact quiet_same (isTick_is _ false _ (by assumption))) | (go_at_call 102; exact quiet_same (isTick_is _ c _ (by assumption))) | (go_at_call 42; exact quiet_same (unless_any _ _ _)))))); refine wpQuiet_nil ?_)
      rintro w1 n1
      go_wp2_with (go_at_call 41; refine (first_any _ 2 2 [_, _] _ (by omega) rfl (cells_new _ _ _ _ (by simp) _ rfl)).mono ?_; rintro e w' ⟨rfl, rfl⟩)
      go_ret
      exact ⟨rfl, New.trans ((New.refl _).alloc _) (n1.alloc _)⟩
  exact hall _ rfl
end Go.Proofs.YtkahjpbnlclhhaaDoor

namespace Go.Proofs.YtkahjpbnlclhhaaDoor
open Go.RowKit Go.Sky

theorem infoInt : (Tryd.prog.info? 3).map (fun i => (i.zero, i.size, i.bytes)) = some (some (.int .i64 0), 1, 8) := by kernel_rfl
theorem encI_len (x : Int) : (encI x).length = 1 := rfl
theorem encI_one (x : Int) : ∀ u ∈ encI x, u.oneCell' = true := by intro u hu; simp [encI] at hu; subst hu; rfl

set_option maxHeartbeats 400000 in
theorem cloneI_any (A : Option Addr) (n cap : Nat) (xs : List Int) (w : World) (hn : n ≤ 1000000) (hr : Rd w 1 encI A n xs) :
    Calls Tryd.prog 48 #[.slice A n cap] w fun e w' => ∃ A' cap', e = .returned (.slice A' n cap') ∧ Own w' w.heap.size 3 1 encI A' n cap' xs ∧ New w w' := by
  obtain ⟨i0, hi, hz0, hz1, hz2⟩ := info_parts infoInt
  have hnil := fun W => Lib.run_eql_slice_nil (P := Tryd.prog) W 25 3 A n cap 0 0 Tryd.underlying25
  cases A with
  | none =>
    have h0 : n = 0 := by
      rcases Nat.eq_zero_or_pos n with h | h
      · exact h
      · obtain ⟨b, o, e, _⟩ := hr.some_ h; cases e
    subst h0
    have hxs : xs = [] := List.eq_nil_of_length_eq_zero hr.1
    subst hxs
    clear hr hi hz0 hz1 hz2
    simp only [Option.isNone_none] at hnil
    go_enter Tryd.func48, Tryd.ntmps48
    go_wp2
    go_ret
    exact ⟨none, 0, rfl, Own.nil _ _ _ _ encI_len, New.refl _⟩
  | some a =>
    have HR := Lib.hid hr; clear hr
    simp only [Option.isNone_some] at hnil
    go_enter Tryd.func48, Tryd.ntmps48
    go_wp2_with (at_builtin; refine wpList_pour _ rfl _ _ 25 rfl 3 i0 _ 1 8 Tryd.underlying25 hi hz0 hz1 hz2 rfl (by omega) w.heap.size encI _ 0 0 [] rfl (by exact Own.empty _ _ _ _ encI_len _ (by simp) (by simp)) (some a) n cap xs rfl (by exact HR.out.keep ((New.refl _).alloc _)) encI_one (by unfold maxLen; omega) (by omega) (by simp) ?_; intro A2 cap2 w2 hown2 hg2 hN2)
    go_ret
    refine ⟨A2, cap2, rfl, ?_, hN2 w ((New.refl w).alloc _) (Nat.le_refl _)⟩
    rw [Nat.zero_add] at hown2
    exact hown2

set_option maxHeartbeats 400000 in
theorem copyInts_any (A : Option Addr) (n cap : Nat) (xs : List Int) (w : World) (hn : n ≤ 1000000) (hr : Rd w 1 encI A n xs) :
    Calls Tryd.prog 19 #[.slice A n cap] w fun e w' => ∃ A' cap', e = .returned (.slice A' n cap') ∧ Own w' w.heap.size 3 1 encI A' n cap' xs ∧ New w w' := by
  obtain ⟨i0, hi, hz0, hz1, hz2⟩ := info_parts infoInt
  have HR := Lib.hid hr; clear hr
  go_enter Tryd.func19, Tryd.ntmps19
  go_wp2_with (at_builtin; refine wpList_pour _ rfl _ _ 25 rfl 3 i0 _ 1 8 Tryd.underlying25 hi hz0 hz1 hz2 rfl (by omega) w.heap.size encI _ 0 0 [] rfl (by exact Own.empty _ _ _ _ encI_len _ (by simp) (by simp)) A n cap xs rfl (by exact HR.out.keep ((New.refl _).alloc _)) encI_one (by unfold maxLen; omega) (by omega) (by simp) ?_; intro A2 cap2 w2 hown2 hg2 hN2)
  go_ret
  refine ⟨A2, cap2, rfl, ?_, hN2 w ((New.refl w).alloc _) (Nat.le_refl _)⟩
  rw [Nat.zero_add] at hown2
  exact hown2

theorem isValue_any (n : Int) (w : World) : Calls Tryd.prog 57 #[.int .i64 n] w fun e w' => e = .returned (.bool (inR n (-1000000000) 1000000000)) ∧ w = w' := by
  go_enter Tryd.func57, Tryd.ntmps57
  go_wp2_with (go_at_call 53; refine (within_any _ _ _ _).mono ?_; rintro e w' ⟨rfl, rfl⟩)
  go_ret
  exact ⟨rfl, rfl⟩

theorem strange_any (n : Int) (w : World) : Calls Tryd.prog 75 #[.int .i64 n] w fun e w' => e = .returned (.bool (!inR n (-1000000000) 1000000000)) ∧ New w w' := by
  go_enter Tryd.func75, Tryd.ntmps75
  go_wp2_with (go_at_call 57; refine (isValue_any _ _).mono ?_; rintro e w' ⟨rfl, rfl⟩)
  go_ret
  exact ⟨rfl, New.refl _⟩

/-- The first index at which p holds, or -1: a search for a closure's answer. -/
def idxS {α : Type} (p : α → Bool) (xs : List α) : Int := match xs.findIdx? p with | some i => (i : Int) | none => -1

theorem idxS_hit {α : Type} (p : α → Bool) (xs : List α) (k : Nat) (x : α) (hx : xs[k]? = some x) (hp : p x = true) (hno : ∀ j y, j < k → xs[j]? = some y → p y = false) : idxS p xs = k := by
  have h : xs.findIdx? p = some k := by
    rw [List.findIdx?_eq_some_iff_getElem]
    obtain ⟨hk, rfl⟩ := List.getElem?_eq_some_iff.1 hx
    exact ⟨hk, hp, fun j hj => by simp [hno j xs[j] hj (List.getElem?_eq_getElem (by omega))]⟩
  unfold idxS; rw [h]
theorem idxS_miss {α : Type} (p : α → Bool) (xs : List α) (n : Nat) (hl : xs.length = n) (hno : ∀ j y, j < n → xs[j]? = some y → p y = false) : idxS p xs = -1 := by
  have h : xs.findIdx? p = none := by
    rw [List.findIdx?_eq_none_iff]
    intro x hx
    obtain ⟨j, hj, rfl⟩ := List.getElem_of_mem hx
    exact hno j _ (by omega) (List.getElem?_eq_getElem hj)
  unfold idxS; rw [h]
theorem idxS_any {α : Type} (p : α → Bool) (xs : List α) : decide (0 ≤ idxS p xs) = xs.any p := by
  unfold idxS
  cases h : xs.findIdx? p with
  | none =>
    rw [List.findIdx?_eq_none_iff] at h
    simp only [show ¬ (0 : Int) ≤ -1 by omega, decide_false]
    symm
    rw [List.any_eq_false]
    intro x hx
    simp [h x hx]
  | some i =>
    rw [List.findIdx?_eq_some_iff_getElem] at h
    obtain ⟨hi, hp, _⟩ := h
    simp only [show (0 : Int) ≤ (i : Int) by omega, decide_true]
    symm
    rw [List.any_eq_true]
    exact ⟨_, List.getElem_mem hi, hp⟩

set_option maxRecDepth 100000 in
set_option maxHeartbeats 400000 in
theorem idxFuncI (g : Nat) (cb : Array Value) (p : Int → Bool) (A : Option Addr) (n cap : Nat) (xs : List Int) (w : World) (hn : n ≤ 1000000) (hr : Rd w 1 encI A n xs) (eg : ∀ (args : Array Value) (W : World), (callFunc g args).run Tryd.prog W = .ok (.enter g args) W)
    (hp : ∀ x W, New w W → Calls Tryd.prog g (#[.int .i64 x] ++ cb) W fun e w' => e = .returned (.bool (p x)) ∧ New W w') :
    Calls Tryd.prog 92 #[.slice A n cap, .func (.func g) #[] cb] w fun e w' => e = .returned (.int .i64 (idxS p xs)) ∧ New w w' := by
  have HR := Lib.hid hr; clear hr
  have HP := Lib.hid hp; clear hp
  go_enter Tryd.func92, Tryd.ntmps92
  go_wp2
  go_loopw [5, 8] (fun _ i wr => ∃ k : Nat, k ≤ n ∧ i = .int .i64 k ∧ Hid (∀ j x, j < k → xs[j]? = some x → p x = false) ∧ New w wr) (fun _ i _ => n - (intOf i).toNat)
  case atStart => exact ⟨0, by omega, rfl, (fun j x hj => absurd hj (by omega)), New.refl _⟩
  case round =>
    obtain ⟨k, hk, rfl, HF, hN⟩ := hrel
    by_cases hlt : k < n
    · obtain ⟨b, o, x, rfl, hb, hx, hc⟩ := (HR.out.keep hN).at_ hlt
      have g0 := hc 0 _ rfl
      simp only [Nat.add_zero, Nat.mul_one] at g0
      have HX := Lib.hid hx
      clear hx hc
      obtain ⟨q, hq⟩ : ∃ q, p x = q := ⟨_, rfl⟩
      have HQ := Lib.hid hq
      cases q
      all_goals
        go_wp2_with fail
        refine (HP.out x _ hN).mono ?_
        rintro e w1 ⟨he, hn1⟩
        rw [HQ.out] at he
        subst he
        clear hq
      · go_wp2
        go_roundw
        case rel => exact ⟨k + 1, by omega, by go_num, fun j y hj hy => by
          rcases Nat.lt_or_ge j k with h | h
          · exact HF.out j y h hy
          · obtain rfl : j = k := by omega
            have hxy := HX.out
            rw [hy] at hxy
            injection hxy with hxy
            rw [hxy]
            exact HQ.out, hN.trans hn1⟩
        case measure => simp [intOf]; omega
      · go_wp2
        go_ret
        exact ⟨by rw [idxS_hit p xs k x HX.out HQ.out HF.out]; rfl, hN.trans hn1⟩
    · go_wp2
      go_ret
      exact ⟨by rw [idxS_miss p xs n HR.out.len (fun j y hj hy => HF.out j y (by omega) hy)]; rfl, hN⟩
end Go.Proofs.YtkahjpbnlclhhaaDoor

namespace Go.Proofs.YtkahjpbnlclhhaaDoor
open Go.RowKit Go.Sky

def encR (r : Int × Int) : List Value := [.int .i64 r.1, .int .i64 r.2]
def encX (x : Exch) : List Value := [.int .i64 x.s, .int .i64 x.t, .int .i64 x.r]

set_option maxHeartbeats 400000 in
theorem timeErr_any (d t : Int) (w : World) : Calls Tryd.prog 84 #[.int .i64 d, .int .i64 t] w fun e w' => e = .returned (.int .i64 (timeE d t)) ∧ New w w' := by
  go_enter Tryd.func84, Tryd.ntmps84
  go_wp2_with (first
    | (go_at_call 53; refine (within_any _ _ _ _).mono ?_; rintro e w' ⟨rfl, rfl⟩)
    | (go_at_call 102; refine (isTick_any _ _).mono ?_; rintro e w' ⟨rfl, rfl⟩)
    | (go_at_call 42; refine (unless_any _ _ _).mono ?_; rintro e w' ⟨rfl, rfl⟩)
    | (go_at_call 41; refine (first_any _ 2 2 [_, _] _ (by omega) rfl (cells_new _ _ _ _ (by simp) _ rfl)).mono ?_; rintro e w' ⟨rfl, rfl⟩))
  go_ret
  exact ⟨rfl, (New.refl _).alloc _⟩

set_option maxHeartbeats 1000000 in
theorem offset_any (s t r d m : Int) (w : World) (hs : 0 ≤ s) (hsr : s ≤ r) (hr1 : r ≤ 1000000000000) (ht : 0 ≤ t) (ht1 : t ≤ 1000000000000) (hd : 0 ≤ d) (hd1 : d ≤ 1000) (hm : 0 ≤ m) (hm1 : m ≤ 1000000000000) :
    Calls Tryd.prog 85 #[.agg #[.int .i64 s, .int .i64 t, .int .i64 r], .int .i64 d, .int .i64 m] w fun e w' =>
      e = .returned (.agg #[.int .i64 (offBy ⟨s, t, r⟩ d m).1, .int .i64 (offBy ⟨s, t, r⟩ d m).2]) ∧ New w w' := by
  obtain ⟨z, hz⟩ : ∃ z, z = max3 (s - m) (m - r) := ⟨_, rfl⟩
  have hz0 : 0 ≤ z := by rw [hz]; unfold max3; omega
  have hz1 : z ≤ 1000000000000 := by rw [hz]; unfold max3; omega
  have hp0 : 0 ≤ d * z := Int.mul_nonneg hd hz0
  have hp1 : d * z ≤ 1000 * 1000000000000 := Int.mul_le_mul hd1 hz1 hz0 (by omega)
  have hu0 : 0 ≤ upS (d * z) 1000 := by unfold upS; omega
  have hu1 : upS (d * z) 1000 ≤ 2000000000000 := by unfold upS; omega
  have hfin : offBy ⟨s, t, r⟩ d m = (t - r - upS (d * z) 1000, t - s + upS (d * z) 1000) := by rw [hz]; rfl
  have HF := Lib.hid hfin; clear hfin
  obtain ⟨hc1, hc2, h0⟩ | ⟨hc1, hc2, h0⟩ | ⟨hc1, hc2, h0⟩ : (m < s ∧ m ≤ r ∧ z = s - m) ∨ (s ≤ m ∧ m ≤ r ∧ z = 0) ∨ (s ≤ m ∧ r < m ∧ z = m - r) := by
    rw [hz]; unfold max3; omega
  all_goals
    clear hz
    have HZ := Lib.hid h0
    rw [h0] at hp0 hp1 hu0 hu1
    clear h0
    have q0 : 0 ≤ upS 0 1000 := by decide
    have q1 : upS 0 1000 ≤ 0 := by decide
    go_enter Tryd.func85, Tryd.ntmps85
    go_wp2_with (go_at_call 54; refine (up_any _ _ _ (by omega) (by omega) (by omega) (by omega)).mono ?_; rintro e w' ⟨rfl, rfl⟩)
    exact bodyPost_ret (v := .agg #[.int .i64 (offBy ⟨s, t, r⟩ d m).1, .int .i64 (offBy ⟨s, t, r⟩ d m).2]) (by rw [HF.out, HZ.out]; simp [results, Tryd.results85, go_sem]) rfl ⟨rfl, ((New.refl _).alloc _).alloc _⟩

set_option maxHeartbeats 1000000 in
theorem common_any (A : Option Addr) (n cap : Nat) (xs : List (Int × Int)) (w : World) (hn : 0 < n) (hn2 : n ≤ 1000) (hr : Rd w 2 encR A n xs) :
    Calls Tryd.prog 64 #[.slice A n cap] w fun e w' => e = .returned (.tuple #[.agg #[.int .i64 (comS xs).1, .int .i64 (comS xs).2], .bool (decide ((comS xs).1 ≤ (comS xs).2))]) ∧ New w w' := by
  obtain ⟨b, o, rfl, hb, hc⟩ := hr.some_ hn
  have HL := Lib.hid hr.len; clear hr
  obtain ⟨x0, hx0⟩ : ∃ x, xs[0]? = some x := ⟨_, List.getElem?_eq_getElem (by rw [HL.out]; omega)⟩
  have h00 := hc 0 x0 hx0 0 _ rfl
  have h01 := hc 0 x0 hx0 1 _ rfl
  simp at h00 h01
  have HX0 := Lib.hid (show xs.headD (0, 0) = x0 by cases xs with | nil => simp at hx0 | cons y ys => simpa using hx0)
  clear hx0
  have HC := Lib.hid hc; clear hc
  go_enter Tryd.func64, Tryd.ntmps64
  go_wp2
  go_loopw [12] (fun i wr => ∃ k : Nat, ∃ c : Int × Int, k ≤ n ∧ i = .int .i64 k ∧ Hid (c = foldTo rCut x0 xs k) ∧ Bx wr w.heap.size 71 #[.int .i64 0, .int .i64 0] ∧ Bx wr (w.heap.size + 1) 71 #[.int .i64 c.1, .int .i64 c.2] ∧ New w wr)
    (fun i _ => n - (intOf i).toNat)
  case atStart => exact ⟨0, x0, by omega, rfl, rfl, (Bx.mk _ _ _).alloc _, Bx.mk_at _ _ _ _ (by simp), ((New.refl _).alloc _).alloc _⟩
  case round =>
    obtain ⟨k, c, hk, rfl, HF, hz, hy, hN⟩ := hrel
    have c0 : wr.cell? _ = some _ := hy.cell 0
    have c1 : wr.cell? _ = some _ := hy.cell 1
    have f0 := hy.free 0
    have f1 := hy.free 1
    have hsz := hy.lt
    by_cases hlt : k < n
    · obtain ⟨x, hx⟩ : ∃ x, xs[k]? = some x := ⟨_, List.getElem?_eq_getElem (by rw [HL.out]; omega)⟩
      have g0 := hN.cell (HC.out k x hx 0 _ rfl)
      have g1 := hN.cell (HC.out k x hx 1 _ rfl)
      have HS := Lib.hid (foldTo_step rCut x0 xs k x hx)
      simp only [Nat.add_zero] at g0
      clear hx
      go_wp2
      all_goals
        go_roundw
        case rel => exact ⟨k + 1, rCut c x, by omega, by go_num, by rw [HS.out, ← HF.out]; rfl, ((hz.far (p := ⟨_, _, _⟩) (by simp) _).far (p := ⟨_, _, _⟩) (by simp) _).alloc _, by
          have e1 : max c.1 x.1 = if c.1 < x.1 then x.1 else c.1 := by omega
          have e2 : min c.2 x.2 = if x.2 < c.2 then x.2 else c.2 := by omega
          simp only [rCut, e1, e2]
          exact ((hy.set 0 _).set 1 _).alloc _, (((hN.setCell (by simp) _).setCell (by simp) _).alloc _)⟩
        case measure => simp [intOf]; omega
    · have y0 : wr.cell? _ = some _ := hz.cell 0
      have y1 : wr.cell? _ = some _ := hz.cell 1
      have yf0 := hz.free 0
      have yf1 := hz.free 1
      have HE := Lib.hid (show c = comS xs by rw [HF.out, foldTo_all _ _ _ _ (by rw [HL.out]; omega)]; unfold comS; rw [HX0.out])
      go_wp2
      go_region
      all_goals
        go_wp2
        exact bodyPost_ret (v := .tuple #[.agg #[.int .i64 c.1, .int .i64 c.2], .bool (decide (c.1 ≤ c.2))]) (by simp [results, Tryd.results64, go_sem, y0, y1]) rfl ⟨by rw [HE.out], (((hN.setCell (by simp) _).setCell (by simp) _).drew)⟩
end Go.Proofs.YtkahjpbnlclhhaaDoor

namespace Go.Proofs.YtkahjpbnlclhhaaDoor
open Go.RowKit Go.Sky

theorem infoRange : (Tryd.prog.info? 71).map (fun i => (i.zero, i.size, i.bytes)) = some (some (.agg #[.int .i64 0, .int .i64 0]), 2, 16) := by kernel_rfl
theorem encR_len (x : Int × Int) : (encR x).length = 2 := rfl
theorem encR_one (x : Int × Int) : ∀ u ∈ encR x, u.oneCell' = true := by intro u hu; simp [encR] at hu; rcases hu with rfl | rfl <;> rfl

def OffsPost (w : World) (xs : List Exch) (d t : Int) (e : Ending) (w' : World) : Prop :=
  New w w' ∧ ((offsErr xs d t ≠ 0 ∧ e = .returned (.tuple #[.slice none 0 0, .int .i64 (offsErr xs d t)])) ∨
    (offsErr xs d t = 0 ∧ ∃ A cap, e = .returned (.tuple #[.slice A xs.length cap, .int .i64 0]) ∧ Own w' w.heap.size 71 2 encR A xs.length cap (xs.map (offBy · d t))))

set_option maxHeartbeats 1000000 in
theorem offsets_any (A : Option Addr) (n cap : Nat) (xs : List Exch) (d t : Int) (w : World) (hn : n ≤ 1000) (hr : Rd w 3 encX A n xs) :
    Calls Tryd.prog 63 #[.slice A n cap, .int .i64 d, .int .i64 t] w (OffsPost w xs d t) := by
  obtain ⟨i0, hi, hz0, hz1, hz2⟩ := info_parts infoRange
  have HL := Lib.hid hr.len
  have HR := Lib.hid hr; clear hr
  obtain ⟨E0, hE0⟩ : ∃ E, E = firstE [errU (decide (0 < n)) 10, errU (decide ((n : Int) ≤ 20)) 8] := ⟨_, rfl⟩
  have HE := Lib.hid hE0; clear hE0
  go_enter Tryd.func63, Tryd.ntmps63
  go_wp2_with (first
    | (go_at_call 42; refine (unless_any _ _ _).mono ?_; rintro e w' ⟨rfl, rfl⟩)
    | (go_at_call 41; refine (first_any _ 2 2 [_, _] _ (by omega) rfl (cells_new _ _ _ _ (by simp) _ rfl)).mono ?_; rintro e w' ⟨rfl, rfl⟩))
  rw [← HE.out]
  go_loopw [8, 9] (fun e i wr => ∃ (k : Nat) (ev : Int), k ≤ n ∧ i = .int .i64 k ∧ e = .int .i64 ev ∧ Hid (ev = if E0 = 0 then exsErr (xs.take k) else E0) ∧ New w wr) (fun _ i _ => n - (intOf i).toNat)
  case atStart => exact ⟨0, E0, by omega, rfl, rfl, (show E0 = _ by by_cases h : E0 = 0 <;> simp [h, exsErr]), (New.refl _).alloc _⟩
  case round =>
    obtain ⟨k, ev, hk, rfl, rfl, HF, hN⟩ := hrel
    by_cases hgo : k < n ∧ ev = 0
    · obtain ⟨hlt, hev⟩ := hgo
      have d1 : decide ((k : Int) < (n : Int)) = true := by simpa using hlt
      have d2 : (ev == 0) = true := by simpa using hev
      have HV := Lib.hid hev; clear hev
      obtain ⟨b, o, x, rfl, hb, hx, hc⟩ := (HR.out.keep hN).at_ hlt
      have g0 := hc 0 _ rfl
      have g1 := hc 1 _ rfl
      have g2 := hc 2 _ rfl
      simp only [Nat.add_zero] at g0
      have HX := Lib.hid hx
      clear hx hc
      go_wp2_with (go_at_call 83; refine (checkEx_any x _).mono ?_; rintro e w' ⟨rfl, hn1⟩)
      go_roundw
      case rel =>
        refine ⟨k + 1, exErr x, by omega, by go_num, rfl, ?_, hN.trans hn1⟩
        show exErr x = _
        have h1 := HF.out
        rw [HV.out] at h1
        by_cases h : E0 = 0
        · rw [if_pos h] at h1 ⊢
          rw [exsErr_take xs k x HX.out h1.symm]
        · rw [if_neg h] at h1; exact absurd h1.symm h
      case measure => simp [intOf]; omega
    · have HEX := Lib.hid (show ev = offE1 xs by
        have h1 := HF.out
        unfold offE1
        rw [firstE_three, HL.out, ← HE.out]
        by_cases h : E0 = 0
        · rw [if_pos h] at h1 ⊢
          rw [h1]
          by_cases hv : ev = 0
          · rw [List.take_of_length_le (by rw [HL.out]; omega)]
          · rw [← exsErr_stop xs k (by rw [← h1]; exact hv)]
        · rw [if_neg h] at h1 ⊢
          exact h1)
      clear HF
      obtain ⟨hlt, d2⟩ | hlt : (k < n ∧ (ev == 0) = false) ∨ ¬ k < n := by
        by_cases h : k < n
        · left; exact ⟨h, by simp; omega⟩
        · exact .inr h
      all_goals
        clear hgo
        have d1 : decide ((k : Int) < (n : Int)) = decide (k < n) := by simp
        simp only [hlt, decide_true, decide_false] at d1
        by_cases hoff : offsErr xs d t = 0
        · have HO := Lib.hid hoff
          have b1 : (firstE [ev, timeE d t] != 0) = false := by rw [HEX.out]; simpa [offsErr] using hoff
          clear hoff
          go_wp2_with (first
            | (go_at_call 84; refine (timeErr_any _ _ _).mono ?_; rintro e w1 ⟨rfl, hn1⟩)
            | (go_at_call 41; refine (first_any _ 2 2 [_, _] _ (by omega) rfl (cells_new _ _ _ _ (by simp) _ rfl)).mono ?_; rintro e w' ⟨rfl, rfl⟩))
          have hz0e : exsErr xs = 0 ∧ timeE d t = 0 ∧ n ≤ 20 := offsErr_zero HL.out HO.out
          obtain ⟨ht1, ht2, ht3, ht4⟩ := timeE_zero hz0e.2.1
          have hn20 := hz0e.2.2
          have HXS := Lib.hid hz0e.1
          clear hz0e
          have hN2 := hN.trans hn1
          clear hn1
          go_loopw [10, 49] (fun v i wq => ∃ (j : Nat) (A' : Option Addr) (cap' : Nat), j ≤ n ∧ i = .int .i64 j ∧ v = .slice A' j cap' ∧ Own wq w.heap.size 71 2 encR A' j cap' ((xs.map (offBy · d t)).take j) ∧ New w wq) (fun _ i _ => n - (intOf i).toNat)
          case atStart => exact ⟨0, none, 0, by omega, rfl, rfl, Own.nil _ _ _ _ encR_len, hN2.alloc _⟩
          case round =>
            obtain ⟨j, A', cap', hj, rfl, rfl, hown, hNq⟩ := hrel
            by_cases hjn : j < n
            · obtain ⟨b, o, x, rfl, hb, hx, hc⟩ := (HR.out.keep hNq).at_ hjn
              have g0 := hc 0 _ rfl
              have g1 := hc 1 _ rfl
              have g2 := hc 2 _ rfl
              simp only [Nat.add_zero] at g0
              obtain ⟨e1, e2, e3, e4, e5⟩ := exErr_zero (exsErr_zero HXS.out x (List.mem_of_getElem? hx))
              have HX := Lib.hid hx
              clear hx hc
              go_wp2_with (first
                | (go_at_call 85; refine (offset_any x.s x.t x.r d t _ (by omega) (by omega) (by omega) (by omega) (by omega) (by omega) (by omega) (by omega) (by omega)).mono ?_; rintro e w2 ⟨rfl, hn2⟩)
                | (at_builtin; refine wpList_push _ rfl _ _ 116 rfl 71 i0 _ 2 16 Tryd.underlying116 hi hz0 hz1 hz2 rfl (by omega) w.heap.size encR A' j cap' _ rfl (by exact (hown.keep (hn2of hn2)).alloc _) _ 1 1 [offBy x d t] rfl rfl (by omega) (by exact cells_new _ _ _ _ (by simp) _ rfl) encR_one (by unfold maxLen; omega) (by omega) (by have := hNq.size; have := hn2.size; simp at this; simp; omega) ?_; intro g cap2 w3 hown3 hg3 hat3 hb3 hlt3 hN3))
              exact ⟨⟨j + 1, _, cap2, by omega, by go_num, rfl, by rw [take_map_succ _ xs j x HX.out]; exact hown3, hN3 _ ((hNq.trans (hn2of hn2)).alloc _) (Nat.le_refl _)⟩, by simp [intOf]; omega⟩
            · obtain rfl : n = j := by omega
              go_wp2
              go_ret2
              refine ⟨hNq, .inr ⟨HO.out, A', cap', by rw [HL.out]; rfl, ?_⟩⟩
              rw [HL.out]
              rw [take_all_map _ _ _ (by rw [HL.out]; exact Nat.le_refl _)] at hown
              exact hown
        · have HO := Lib.hid hoff
          have b1 : (firstE [ev, timeE d t] != 0) = true := by rw [HEX.out]; simpa [offsErr] using hoff
          clear hoff
          go_wp2_with (first
            | (go_at_call 84; refine (timeErr_any _ _ _).mono ?_; rintro e w1 ⟨rfl, hn1⟩)
            | (go_at_call 41; refine (first_any _ 2 2 [_, _] _ (by omega) rfl (cells_new _ _ _ _ (by simp) _ rfl)).mono ?_; rintro e w' ⟨rfl, rfl⟩))
          go_ret2
          exact ⟨(hN.trans hn1).alloc _, .inl ⟨HO.out, by unfold offsErr; rw [← HEX.out]; rfl⟩⟩

end Go.Proofs.YtkahjpbnlclhhaaDoor

namespace Go.Proofs.YtkahjpbnlclhhaaDoor
open Go.RowKit Go.Sky

theorem offAt_err {xs : List Exch} {d t : Int} (h : offsErr xs d t ≠ 0) : offAtS xs d t = ((0, 0), offsErr xs d t) := by unfold offAtS; rw [if_neg h]
theorem offAt_clash {xs : List Exch} {d t : Int} (h : offsErr xs d t = 0) (h2 : ¬ (comS (xs.map (offBy · d t))).1 ≤ (comS (xs.map (offBy · d t))).2) : offAtS xs d t = ((0, 0), 13) := by unfold offAtS; rw [if_pos h, if_neg h2]
theorem offAt_ok {xs : List Exch} {d t : Int} (h : offsErr xs d t = 0) (h2 : (comS (xs.map (offBy · d t))).1 ≤ (comS (xs.map (offBy · d t))).2) : offAtS xs d t = (comS (xs.map (offBy · d t)), 0) := by unfold offAtS; rw [if_pos h, if_pos h2]


set_option maxHeartbeats 1000000 in
theorem OffsetAt_any (A : Option Addr) (n cap : Nat) (xs : List Exch) (d t : Int) (w : World) (hn : n ≤ 1000) (hr : Rd w 3 encX A n xs) :
    Calls Tryd.prog 32 #[.slice A n cap, .int .i64 d, .int .i64 t] w fun e w' =>
      e = .returned (.tuple #[.agg #[.int .i64 (offAtS xs d t).1.1, .int .i64 (offAtS xs d t).1.2], .int .i64 (offAtS xs d t).2]) ∧ New w w' := by
  have HL := Lib.hid hr.len
  have HR := Lib.hid hr; clear hr
  go_enter Tryd.func32, Tryd.ntmps32
  go_wp2_with fail
  refine (offsets_any A n cap xs d t _ hn (HR.out.keep ((New.refl _).alloc _))).mono ?_
  rintro e w1 ⟨hn1, ⟨hE, rfl⟩ | ⟨hE, A1, cap1, rfl, hown⟩⟩
  · have HE := Lib.hid (offAt_err hE)
    have b1 : (offsErr xs d t != 0) = true := by simpa using hE
    clear hE
    have hb := (Bx.mk w 71 #[.int .i64 0, .int .i64 0]).keep hn1
    have c0 : w1.cell? _ = some _ := hb.cell 0
    have c1 : w1.cell? _ = some _ := hb.cell 1
    have f0 := hb.free 0
    have f1 := hb.free 1
    go_wp2
    rw [HE.out]
    exact bodyPost_ret (v := .tuple #[.agg #[.int .i64 0, .int .i64 0], .int .i64 (offsErr xs d t)]) (by simp [results, Tryd.results32, go_sem, c0, c1]) rfl ⟨rfl, ((hn2of hn1).setCell (by simp) _).setCell (by simp) _⟩
  · have b1 : (offsErr xs d t != 0) = false := by simpa using hE
    have h20 := (offsErr_zero HL.out hE).2.2
    have hpos := offsErr_pos HL.out hE
    have HE := Lib.hid hE
    clear hE
    have hl : (xs.map (offBy · d t)).length = xs.length := by simp
    have HD := Lib.hid hown.rd; clear hown
    have hb := (Bx.mk w 71 #[.int .i64 0, .int .i64 0]).keep hn1
    rw [HL.out] at HD ⊢
    obtain ⟨c, hc⟩ : ∃ c, comS (xs.map (offBy · d t)) = c := ⟨_, rfl⟩
    have HC := Lib.hid hc
    have hN := hn2of hn1
    by_cases hok : c.1 ≤ c.2
    · have HO := Lib.hid (offAt_ok HE.out (by rw [hc]; exact hok))
      have d1 := decide_eq_true hok
      clear hok hl hc
      go_wp2_with fail
      refine (common_any A1 n cap1 _ _ hpos hn HD.out).mono ?_
      rintro e w2 ⟨he, hn2⟩
      rw [HC.out, d1] at he
      subst he
      have hb2 := hb.keep hn2
      have c0 : w2.cell? _ = some _ := hb2.cell 0
      have c1 : w2.cell? _ = some _ := hb2.cell 1
      have f0 := hb2.free 0
      have f1 := hb2.free 1
      have hlt := hb2.lt
      clear hb hb2
      go_wp2
      rw [HO.out, HC.out]
      exact bodyPost_ret (v := .tuple #[.agg #[.int .i64 c.1, .int .i64 c.2], .int .i64 0]) (by simp [results, Tryd.results32, go_sem, c0, c1, hlt]) rfl ⟨rfl, (by repeat (first | exact New.refl _ | assumption | apply New.drew | apply New.alloc | (refine New.setCell ?_ (by simp; try omega) _) | (refine New.trans ?_ (by assumption))))⟩
    · have HO := Lib.hid (offAt_clash HE.out (by rw [hc]; exact hok))
      have d1 := decide_eq_false hok
      clear hok hl hc
      go_wp2_with fail
      refine (common_any A1 n cap1 _ _ hpos hn HD.out).mono ?_
      rintro e w2 ⟨he, hn2⟩
      rw [HC.out, d1] at he
      subst he
      have hb2 := hb.keep hn2
      have c0 : w2.cell? _ = some _ := hb2.cell 0
      have c1 : w2.cell? _ = some _ := hb2.cell 1
      have f0 := hb2.free 0
      have f1 := hb2.free 1
      have hlt := hb2.lt
      clear hb hb2
      go_wp2
      rw [HO.out]
      exact bodyPost_ret (v := .tuple #[.agg #[.int .i64 0, .int .i64 0], .int .i64 13]) (by simp [results, Tryd.results32, go_sem, c0, c1, hlt]) rfl ⟨rfl, (by repeat (first | exact New.refl _ | assumption | apply New.drew | apply New.alloc | (refine New.setCell ?_ (by simp; try omega) _) | (refine New.trans ?_ (by assumption))))⟩

theorem exE_one (x : Exch) (d t : Int) : firstE [exErr x, timeE d t] = if exErr x = 0 then timeE d t else exErr x := firstE_two _ _

end Go.Proofs.YtkahjpbnlclhhaaDoor

namespace Go.Proofs.YtkahjpbnlclhhaaDoor
open Go.RowKit Go.Sky

theorem enters_go {f : FuncId} {fn : Func} {c : Code} (hf : (Tryd.prog).funcs[f]? = some fn) (hname : (fn.name == "runtime.NumGoroutine") = false) (hb : fn.body = some c) :
    ∀ (args : Array Value) (W : World), (callFunc f args).run Tryd.prog W = .ok (.enter f args) W := by
  intro args w
  have h1 : fn.name ≠ "runtime.NumGoroutine" := by simpa using hname
  simp [callFunc, hf, h1, hb, mark]

set_option maxRecDepth 100000 in
set_option maxHeartbeats 400000 in
theorem containsFuncI (g : Nat) (cb : Array Value) (p : Int → Bool) (A : Option Addr) (n cap : Nat) (xs : List Int) (w : World) (hn : n ≤ 1000000) (hr : Rd w 1 encI A n xs) (eg : ∀ (args : Array Value) (W : World), (callFunc g args).run Tryd.prog W = .ok (.enter g args) W)
    (hp : ∀ x W, New w W → Calls Tryd.prog g (#[.int .i64 x] ++ cb) W fun e w' => e = .returned (.bool (p x)) ∧ New W w') :
    Calls Tryd.prog 74 #[.slice A n cap, .func (.func g) #[] cb] w fun e w' => e = .returned (.bool (xs.any p)) ∧ New w w' := by
  have HR := Lib.hid hr; clear hr
  have HP := Lib.hid hp; clear hp
  have HG := Lib.hid eg; clear eg
  have HA := Lib.hid (idxS_any p xs)
  go_enter Tryd.func74, Tryd.ntmps74
  go_wp2_with (go_at_call 92; refine (idxFuncI g cb p A n cap xs _ hn HR.out HG.out HP.out).mono ?_; rintro e w1 ⟨rfl, hn1⟩)
  go_ret
  exact ⟨by rw [← HA.out]; rfl, hn1⟩

def strange (n : Int) : Bool := !inR n (-1000000000) 1000000000
def serE (xs : List Int) : Int := firstE [errU (decide (((xs.length : Nat) : Int) ≤ 200)) 8, errU (!xs.any strange) 2]

set_option maxHeartbeats 400000 in
theorem seriesErr_any (A : Option Addr) (n cap : Nat) (xs : List Int) (w : World) (hn : n ≤ 1000000) (hr : Rd w 1 encI A n xs) :
    Calls Tryd.prog 47 #[.slice A n cap] w fun e w' => e = .returned (.int .i64 (serE xs)) ∧ New w w' := by
  have HL := Lib.hid hr.len
  have HR := Lib.hid hr; clear hr
  have HG := Lib.hid (enters_go (f := 75) Tryd.func75 (by kernel_rfl) rfl)
  have HS := Lib.hid (show serE xs = firstE [errU (decide ((n : Int) ≤ 200)) 8, errU (!xs.any strange) 2] by unfold serE; rw [HL.out])
  generalize hq : xs.any strange = q at *
  have HQ := Lib.hid hq; clear hq
  go_enter Tryd.func47, Tryd.ntmps47
  go_wp2_with (first
    | (go_at_call 74; refine (containsFuncI 75 #[] strange A n cap xs _ hn HR.out HG.out (fun x W _ => strange_any x W)).mono ?_; rintro e w1 ⟨he, hn1⟩; rw [HQ.out] at he; subst he)
    | (go_at_call 42; refine (unless_any _ _ _).mono ?_; rintro e w' ⟨rfl, rfl⟩)
    | (go_at_call 41; refine (first_any _ 2 2 [_, _] _ (by omega) rfl (cells_new _ _ _ _ (by simp) _ rfl)).mono ?_; rintro e w' ⟨rfl, rfl⟩))
  go_ret
  exact ⟨by rw [HS.out]; rfl, hn1.alloc _⟩

set_option maxRecDepth 100000 in
set_option maxHeartbeats 1000000 in
theorem ints_any (A B : Option Addr) (n m c1 c2 : Nat) (xs ys : List Int) (w : World) (hn : n ≤ 1000000) (hm : m ≤ 1000000) (hr : Rd w 1 encI A n xs) (hs : Rd w 1 encI B m ys) :
    Calls Tryd.prog 13 #[.slice A n c1, .slice B m c2] w fun e w' => e = .returned (.bool (decide (xs = ys))) ∧ New w w' := by
  have HR := Lib.hid hr; clear hr
  have HS := Lib.hid hs; clear hs
  by_cases hnm : n = m
  · subst hnm
    have d0 : ((n : Int) != (n : Int)) = false := by simp
    go_enter Tryd.func13, Tryd.ntmps13
    go_wp2
    go_loopw [5] (fun i wr => ∃ k : Nat, k ≤ n ∧ i = .int .i64 k ∧ Hid (xs.take k = ys.take k) ∧ New w wr) (fun i _ => n - (intOf i).toNat)
    case atStart => exact ⟨0, by omega, rfl, rfl, New.refl _⟩
    case round =>
      obtain ⟨k, hk, rfl, HF, hN⟩ := hrel
      by_cases hlt : k < n
      · obtain ⟨b, o, x, rfl, hb, hx, hc⟩ := (HR.out.keep hN).at_ hlt
        obtain ⟨b', o', y, rfl, hb', hy, hc'⟩ := (HS.out.keep hN).at_ hlt
        have g0 := hc 0 _ rfl
        have g1 := hc' 0 _ rfl
        simp only [Nat.add_zero, Nat.mul_one] at g0 g1
        have HX := Lib.hid (take_snoc xs k x hx)
        have HY := Lib.hid (take_snoc ys k y hy)
        have HX1 := Lib.hid hx
        have HY1 := Lib.hid hy
        clear hx hy hc hc'
        have l1 : (0 : Int) ≤ (k : Int) := by omega
        have l2 : (k : Int) < (n : Int) := by omega
        by_cases hxy : x = y
        · have dxy : (x != y) = false := by simpa using hxy
          have HXY := Lib.hid hxy; clear hxy
          go_wp2
          go_quiet (fail)
          go_wp2
          go_roundw
          case rel => exact ⟨k + 1, by omega, by go_num, by rw [HX.out, HY.out, HF.out, HXY.out]; rfl, hN.drewN _⟩
          case measure => simp [intOf]; omega
        · have dxy : (x != y) = true := by simpa using hxy
          have HXY := Lib.hid hxy; clear hxy
          go_wp2
          go_quiet (fail)
          go_wp2
          go_ret
          refine ⟨?_, hN.drewN _⟩
          have : ¬ xs = ys := by
            intro e
            subst e
            have h := HX1.out
            rw [HY1.out] at h
            injection h with h
            exact HXY.out h.symm
          simp [this]
      · go_wp2
        go_ret
        refine ⟨?_, hN⟩
        have : xs = ys := by
          have h := HF.out
          rw [List.take_of_length_le (by rw [HR.out.len]; omega), List.take_of_length_le (by rw [HS.out.len]; omega)] at h
          exact h
        simp [this]
  · have d0 : ((n : Int) != (m : Int)) = true := by simp; omega
    have hne : ¬ xs = ys := by
      intro e
      have h1 := HR.out.len
      have h2 := HS.out.len
      rw [e] at h1
      omega
    have HN := Lib.hid hne
    clear hnm hne
    go_enter Tryd.func13, Tryd.ntmps13
    go_wp2
    go_ret
    exact ⟨by simp [HN.out], New.refl _⟩

theorem ints_is (c : Bool) (A B : Option Addr) (n m c1 c2 : Nat) (xs ys : List Int) (w : World) (hn : n ≤ 1000000) (hm : m ≤ 1000000) (hr : Rd w 1 encI A n xs) (hs : Rd w 1 encI B m ys) (hc : decide (xs = ys) = c) :
    Calls Tryd.prog 13 #[.slice A n c1, .slice B m c2] w fun e w' => e = .returned (.bool c) ∧ New w w' := hc ▸ ints_any A B n m c1 c2 xs ys w hn hm hr hs

set_option maxHeartbeats 1000000 in
theorem samePacked_any (a b : Int) (A B : Option Addr) (n m c1 c2 : Nat) (xs ys : List Int) (w : World) (hn : n ≤ 1000000) (hm : m ≤ 1000000) (hr : Rd w 1 encI A n xs) (hs : Rd w 1 encI B m ys) :
    Calls Tryd.prog 37 #[.agg #[.int .i64 a, .slice A n c1], .agg #[.int .i64 b, .slice B m c2]] w fun e w' => e = .returned (.bool (a == b && decide (xs = ys))) ∧ New w w' := by
  have HR := Lib.hid hr; clear hr
  have HS := Lib.hid hs; clear hs
  have HRW : New w ((w.alloc (.cells #[.int .i64 a, .slice A n c1] 42)).alloc (.cells #[.int .i64 b, .slice B m c2] 42)) := ((New.refl _).alloc _).alloc _
  by_cases hab : a = b
  · have d0 : (a == b) = true := by simpa using hab
    clear hab
    go_enter Tryd.func37, Tryd.ntmps37
    go_wp2_with (go_at_call 13; refine (ints_any A B n m c1 c2 xs ys _ hn hm (by exact HR.out.keep HRW) (by exact HS.out.keep HRW)).mono ?_; rintro e w1 ⟨rfl, hn1⟩)
    go_ret
    exact ⟨by simp [d0], HRW.trans hn1⟩
  · have d0 : (a == b) = false := by simpa using hab
    clear hab
    go_enter Tryd.func37, Tryd.ntmps37
    go_wp2_with fail
    go_ret
    exact ⟨by simp [d0], HRW⟩
end Go.Proofs.YtkahjpbnlclhhaaDoor

namespace Go.Proofs.YtkahjpbnlclhhaaDoor
open Go.RowKit Go.Sky

set_option maxRecDepth 100000 in
set_option maxHeartbeats 1000000 in
theorem runs_any (A : Option Addr) (n cap : Nat) (xs : List Int) (w : World) (hn : n ≤ 100000) (hr : Rd w 1 encI A n xs) :
    Calls Tryd.prog 49 #[.slice A n cap] w fun e w' => ∃ A' m' cap', e = .returned (.slice A' m' cap') ∧ Own w' w.heap.size 3 1 encI A' m' cap' (runsS xs) ∧ New w w' := by
  obtain ⟨i0, hi, hz0, hz1, hz2⟩ := info_parts infoInt
  have HL := Lib.hid hr.len
  have HR := Lib.hid hr; clear hr
  go_enter Tryd.func49, Tryd.ntmps49
  go_wp2
  go_loopw [3, 4, 5, 8] (fun v _ _ i wr => ∃ (k : Nat) (A' : Option Addr) (m cap' : Nat), k ≤ n ∧ i = .int .i64 k ∧ v = .slice A' m cap' ∧ m ≤ 2 * k ∧ Own wr w.heap.size 3 1 encI A' m cap' (runsTo xs k) ∧ New w wr) (fun _ _ _ i _ => n - (intOf i).toNat)
  case atStart => exact ⟨0, none, 0, 0, by omega, rfl, rfl, by omega, Own.nil _ _ _ _ encI_len, New.refl _⟩
  case round =>
    obtain ⟨k, A', m, cap', hk, rfl, rfl, hm, hown, hN⟩ := hrel
    by_cases hlt : k < n
    · obtain ⟨b, o, rfl, hb, hc⟩ := (HR.out.keep hN).some_ (by omega)
      obtain ⟨x, hx⟩ : ∃ x, xs[k]? = some x := ⟨_, List.getElem?_eq_getElem (by rw [HL.out]; omega)⟩
      have g0 := hc k x hx 0 _ rfl
      simp only [Nat.add_zero, Nat.mul_one] at g0
      have hxd := Lib.hid (show xs.getD k 0 = x by rw [List.getD_eq_getElem?_getD, hx]; rfl)
      by_cases hsame : 0 < k ∧ xs[k - 1]? = xs[k]?
      · have g1 := hc (k - 1) x (by rw [hsame.2, hx]) 0 _ rfl
        simp only [Nat.add_zero, Nat.mul_one] at g1
        have d2 : (x == x) = true := by simp
        have hk0 := hsame.1
        have HS := Lib.hid (show runsTo xs (k + 1) = bump (runsTo xs k) by simp only [runsTo]; rw [if_pos hsame])
        have hp := runsTo_pos xs k hsame.1
        have hla := runsTo_last xs k
        clear hsame hc hx
        have hml := hown.len
        rw [hml] at hp hla
        obtain ⟨q, hq⟩ : ∃ q, (runsTo xs k).getD (m - 1) 0 = q := ⟨_, rfl⟩
        rw [hq] at hla
        obtain ⟨hla0, hla1⟩ := hla
        have hqe : (runsTo xs k)[m - 1]? = some q := by
          rw [List.getD_eq_getElem?_getD, List.getElem?_eq_getElem (by omega)] at hq
          rw [List.getElem?_eq_getElem (by omega)]
          exact congrArg some hq
        rcases hown.form with ⟨_, h0, _⟩ | ⟨g, rfl, hg1, hg2, hg3, hg4⟩
        · omega
        · have c0 := hown.cell1 (m - 1) q _ hqe rfl
          have f0 := hown.free (m - 1)
          have HB := Lib.hid (show bump (runsTo xs k) = (runsTo xs k).set (m - 1) (q + 1) by unfold bump; rw [hml, hq])
          have l1 : (0 : Int) ≤ (m : Int) - 1 := by omega
          clear hq hqe hml
          go_wp2
          go_roundw
          case rel => exact ⟨k + 1, _, m, cap', by omega, by go_num, rfl, by omega, by rw [HS.out, HB.out]; exact hown.set1 (m - 1) (q + 1) _ (by omega) rfl, hN.setCell hg1 _⟩
          case measure => simp [intOf]; omega
      · have HS := Lib.hid (show runsTo xs (k + 1) = runsTo xs k ++ [x, 1] by simp only [runsTo]; rw [if_neg hsame, hxd.out])
        obtain ⟨hk0, y, g1, d2⟩ | hk0 : (0 < k ∧ ∃ y, wr.cell? ⟨b, o + (k - 1), none⟩ = some (.int .i64 y) ∧ (y == x) = false) ∨ ¬ 0 < k := by
          by_cases hk0 : 0 < k
          · left
            obtain ⟨y, hy⟩ : ∃ y, xs[k - 1]? = some y := ⟨_, List.getElem?_eq_getElem (by rw [HL.out]; omega)⟩
            have g1 := hc (k - 1) y hy 0 _ rfl
            simp only [Nat.add_zero, Nat.mul_one] at g1
            exact ⟨hk0, y, g1, by simp; intro e; subst e; exact hsame ⟨hk0, by rw [hy, hx]⟩⟩
          · exact .inr hk0
        all_goals
          clear hsame hc hx
          have d1 : decide ((0 : Int) < (k : Int)) = decide (0 < k) := by simp
          simp only [hk0, decide_true, decide_false] at d1
          go_wp2_with (at_builtin; refine wpList_push _ rfl _ _ 25 rfl 3 i0 _ 1 8 Tryd.underlying25 hi hz0 hz1 hz2 rfl (by omega) w.heap.size encI A' m cap' _ rfl (by exact hown.alloc _) _ 2 2 [x, 1] rfl rfl (by omega) (by exact cells_new _ _ _ _ (by simp) _ rfl) encI_one (by unfold maxLen; omega) (by omega) (by have := hN.size; simp; omega) ?_; intro g cap2 w3 hown3 hg3 hat3 hb3 hlt3 hN3)
          go_roundw
          case rel => exact ⟨k + 1, _, m + 2, cap2, by omega, by go_num, rfl, by omega, by rw [HS.out]; exact hown3, hN3 _ (hN.alloc _) (Nat.le_refl _)⟩
          case measure => simp [intOf]; omega
    · obtain rfl : n = k := by omega
      go_wp2
      go_ret
      exact ⟨A', m, cap', rfl, by unfold runsS; rw [HL.out]; exact hown, hN⟩
end Go.Proofs.YtkahjpbnlclhhaaDoor

namespace Go.Proofs.YtkahjpbnlclhhaaDoor
open Go.RowKit Go.Sky

theorem abs_getD (xs : List Int) (hb : ∀ x ∈ xs, -1000000000 ≤ x ∧ x ≤ 1000000000) (j : Nat) : -1000000000 ≤ xs.getD j 0 ∧ xs.getD j 0 ≤ 1000000000 := by
  rw [List.getD_eq_getElem?_getD]
  cases h : xs[j]? with
  | none => simp
  | some x => exact hb x (List.mem_of_getElem? h)

set_option maxRecDepth 100000 in
set_option maxHeartbeats 1000000 in
theorem differences_any (A : Option Addr) (n cap : Nat) (xs : List Int) (w : World) (hn : n ≤ 100000) (hr : Rd w 1 encI A n xs) (hbd : ∀ x ∈ xs, -1000000000 ≤ x ∧ x ≤ 1000000000) :
    Calls Tryd.prog 50 #[.slice A n cap] w fun e w' => ∃ A' cap', e = .returned (.slice A' n cap') ∧ Own w' w.heap.size 3 1 encI A' n cap' (diffS xs) ∧ New w w' := by
  have HL := Lib.hid hr.len
  have HR := Lib.hid hr; clear hr
  have HB := Lib.hid (abs_getD xs hbd); clear hbd
  go_enter Tryd.func50, Tryd.ntmps50
  go_wp2_with fail
  refine (cloneI_any A n cap xs _ (by omega) HR.out).mono ?_
  rintro e w1 ⟨A1, cap1, rfl, hown, hN1⟩
  by_cases hn0 : n = 0
  · subst hn0
    have hd : diffS xs = xs := diffFrom_all xs 0 (by rw [HL.out]; omega)
    have HD := Lib.hid hd; clear hd
    go_wp2
    go_loopw [4] (fun i wr => i = .int .i64 (-1) ∧ wr = w1) (fun _ _ => 0)
    case atStart => exact ⟨rfl, rfl⟩
    case round =>
      obtain ⟨rfl, rfl⟩ := hrel
      go_wp2
      go_ret
      exact ⟨A1, cap1, rfl, by rw [HD.out]; exact hown, hN1⟩
  · have hnp : 0 < n := by omega
    clear hn0
    rcases hown.form with ⟨_, h0, _⟩ | ⟨g, rfl, hg1, hg2, hg3, hg4⟩
    · omega
    · have HOW := Lib.hid hown
      clear hown
      go_wp2
      go_loopw [4] (fun i wr => ∃ k : Nat, k < n ∧ i = .int .i64 k ∧ Own wr w.heap.size 3 1 encI (some ⟨g, 0, none⟩) n cap1 (diffFrom xs k) ∧ New w wr ∧ g < wr.heap.size) (fun i _ => (intOf i).toNat)
      case atStart => exact ⟨n - 1, by omega, by rw [show ((n - 1 : Nat) : Int) = (n : Int) - 1 by omega], by rw [diffFrom_all xs (n - 1) (by rw [HL.out]; omega)]; exact HOW.out, hN1, hg2⟩
      case round =>
        obtain ⟨k, hk, rfl, hown, hN, hgl⟩ := hrel
        by_cases hk0 : 0 < k
        · obtain ⟨j, rfl⟩ : ∃ j, k = j + 1 := ⟨k - 1, by omega⟩
          have c1 := hown.cell1 (j + 1) _ _ (diffFrom_at xs (j + 1) (j + 1) (by rw [HL.out]; exact hk)) rfl
          have c0 := hown.cell1 j _ _ (diffFrom_at xs (j + 1) j (by rw [HL.out]; omega)) rfl
          rw [if_neg (by omega)] at c0 c1
          have f1 := hown.free (j + 1)
          obtain ⟨b1, b2⟩ := HB.out (j + 1)
          obtain ⟨b3, b4⟩ := HB.out j
          have HS := Lib.hid (diffFrom_set xs j (by rw [HL.out]; exact hk))
          generalize xs.getD (j + 1) 0 = x at *
          generalize xs.getD j 0 = y at *
          go_wp2
          (refine wp_region_tail 11 (by kernel_rfl) (by kernel_rfl) ?_; simp only [List.take_succ_cons, List.take_zero, List.drop_succ_cons, List.drop_zero]; (repeat (go_big_quiet_step ((fail)))); refine wpQuiet_nil ?_)
          intro w2 n2
          have c1' := n2.cell c1
          have f1' := (n2.marks _ (j + 1) hgl).trans f1
          go_wp2
          go_roundw
          case rel => exact ⟨j, by omega, rfl, by rw [← HS.out]; exact (hown.keep n2).set1 (j + 1) (x - y) _ (by omega) rfl, (hN.trans n2).setCell hg1 _, by simp [World.setCell]; exact Nat.lt_of_lt_of_le hgl n2.size⟩
          case measure => simp [intOf]
        · obtain rfl : k = 0 := by omega
          have HS := Lib.hid (show diffS xs = diffFrom xs 0 from rfl)
          go_wp2
          go_ret
          exact ⟨_, cap1, rfl, by rw [HS.out]; exact hown, hN⟩
end Go.Proofs.YtkahjpbnlclhhaaDoor

namespace Go.Proofs.YtkahjpbnlclhhaaDoor
open Go.RowKit Go.Sky

theorem serE_zero {xs : List Int} (h : serE xs = 0) : xs.length ≤ 200 ∧ ∀ x ∈ xs, -1000000000 ≤ x ∧ x ≤ 1000000000 := by
  unfold serE at h
  rw [firstE_two] at h
  by_cases h1 : errU (decide (((xs.length : Nat) : Int) ≤ 200)) 8 = 0
  · rw [if_pos h1, errU_zero (by decide)] at h
    rw [errU_zero (by decide)] at h1
    refine ⟨by simp at h1; omega, fun x hx => ?_⟩
    simp only [Bool.not_eq_true', List.any_eq_false] at h
    have := h x hx
    simp [strange, inR] at this
    exact this
  · rw [if_neg h1] at h; exact absurd h h1

def PackedPost (w : World) (xs : List Int) (e : Ending) (w' : World) : Prop :=
  New w w' ∧ ((serE xs ≠ 0 ∧ e = .returned (.tuple #[.agg #[.int .i64 0, .slice none 0 0], .int .i64 (serE xs)])) ∨
    (serE xs = 0 ∧ ∃ A n cap, e = .returned (.tuple #[.agg #[.int .i64 (packWay xs), .slice A n cap], .int .i64 0]) ∧ Own w' w.heap.size 3 1 encI A n cap (packNums xs)))

/-- The way that is best so far, by how many have been looked at. -/
def BestRel (a d r : Nat) (b i : Value) : Prop :=
  (i = .int .i64 0 ∧ b = .int .i64 0) ∨ (i = .int .i64 1 ∧ b = .int .i64 0) ∨ (i = .int .i64 2 ∧ b = .int .i64 1 ∧ d < a) ∨ (i = .int .i64 2 ∧ b = .int .i64 0 ∧ ¬ d < a) ∨
  (i = .int .i64 3 ∧ b = .int .i64 1 ∧ d < a ∧ ¬ r < d) ∨ (i = .int .i64 3 ∧ b = .int .i64 2 ∧ d < a ∧ r < d) ∨ (i = .int .i64 3 ∧ b = .int .i64 2 ∧ ¬ d < a ∧ r < a) ∨ (i = .int .i64 3 ∧ b = .int .i64 0 ∧ ¬ d < a ∧ ¬ r < a)

set_option maxRecDepth 100000 in
set_option maxHeartbeats 2000000 in
theorem Packed_any (A : Option Addr) (n cap : Nat) (xs : List Int) (w : World) (hn : n ≤ 100000) (hr : Rd w 1 encI A n xs) :
    Calls Tryd.prog 18 #[.slice A n cap] w (PackedPost w xs) := by
  have HL := Lib.hid hr.len
  have HR := Lib.hid hr; clear hr
  go_enter Tryd.func18, Tryd.ntmps18
  go_wp2_with fail
  refine (seriesErr_any A n cap xs _ (by omega) (HR.out.keep ((New.refl _).alloc _))).mono ?_
  rintro e w1 ⟨rfl, hn1⟩
  have hb := (Bx.mk w 42 #[.int .i64 0, .slice none 0 0]).keep hn1
  have hN1 := hn1
  clear hn1
  by_cases hE : serE xs = 0
  · have b1 : (serE xs != 0) = false := by simpa using hE
    obtain ⟨h200, hbd⟩ := serE_zero hE
    rw [HL.out] at h200
    have HBD := Lib.hid hbd
    have HE := Lib.hid hE
    clear hE hbd
    have hN := ((New.refl w).alloc (.cells #[.int .i64 0, .slice none 0 0] 42)).trans hN1
    go_wp2_with fail
    refine (cloneI_any A n cap xs _ (by omega) (HR.out.keep hN)).mono ?_
    rintro e w2 ⟨A2, cap2, rfl, hown2, hn2⟩
    go_wp2_with fail
    refine (differences_any A n cap xs _ (by omega) (HR.out.keep (hN.trans hn2)) HBD.out).mono ?_
    rintro e w3 ⟨A3, cap3, rfl, hown3, hn3⟩
    go_wp2_with fail
    refine (runs_any A3 n cap3 (diffS xs) _ (by omega) hown3.rd).mono ?_
    rintro e w4 ⟨A4, m4, cap4, rfl, hown4, hn4⟩
    go_wp2_with fail
    refine (runs_any A n cap xs _ (by omega) (HR.out.keep (((hN.trans hn2).trans hn3).trans hn4))).mono ?_
    rintro e w5 ⟨A5, m5, cap5, rfl, hown5, hn5⟩
    have hN5 := (((hN.trans hn2).trans hn3).trans hn4).trans hn5
    have r2 := Lib.hid (hown2.keep ((hn3.trans hn4).trans hn5))
    have r4 := Lib.hid ((hown4.keep hn5).base_le (base' := w1.heap.size) ((hn2.trans hn3).size))
    have r5 := Lib.hid (hown5.base_le (base' := w1.heap.size) (((hn2.trans hn3).trans hn4).size))
    have hb1 := hb.lt
    have hb5 := hb.keep (((hn2.trans hn3).trans hn4).trans hn5)
    have HM4 := Lib.hid hown4.len
    have HM5 := Lib.hid hown5.len
    have hm4 : m4 ≤ 1000000 := by rw [← HM4.out]; have := runsS_len (diffS xs); rw [diffS_len, HL.out] at this; omega
    have hm5 : m5 ≤ 1000000 := by rw [← HM5.out]; have := runsS_len xs; rw [HL.out] at this; omega
    clear hown2 hown3 hown4 hown5 hb hN hN1 hn2 hn3 hn4 hn5
    go_wp2
    have i0 : ∀ W, (Instr.index 103 (.agg #[.slice A2 n cap2, .slice A4 m4 cap4, .slice A5 m5 cap5]) (.int .i64 0)).run Tryd.prog W = .ok (.slice A2 n cap2) W := fun _ => by kernel_rfl
    have i1 : ∀ W, (Instr.index 103 (.agg #[.slice A2 n cap2, .slice A4 m4 cap4, .slice A5 m5 cap5]) (.int .i64 1)).run Tryd.prog W = .ok (.slice A4 m4 cap4) W := fun _ => by kernel_rfl
    have i2 : ∀ W, (Instr.index 103 (.agg #[.slice A2 n cap2, .slice A4 m4 cap4, .slice A5 m5 cap5]) (.int .i64 2)).run Tryd.prog W = .ok (.slice A5 m5 cap5) W := fun _ => by kernel_rfl
    go_loopw [6, 7, 8, 24] (fun bst _ _ i wr => BestRel n m4 m5 bst i ∧ wr = w5.alloc (.cells #[.slice A2 n cap2, .slice A4 m4 cap4, .slice A5 m5 cap5] 103)) (fun _ _ _ i _ => 3 - (intOf i).toNat)
    case atStart => exact ⟨.inl ⟨rfl, rfl⟩, rfl⟩
    case round =>
      obtain ⟨hrel, rfl⟩ := hrel
      rcases hrel with ⟨rfl, rfl⟩ | ⟨rfl, rfl⟩ | ⟨rfl, rfl, h1⟩ | ⟨rfl, rfl, h1⟩ | ⟨rfl, rfl, h1, h2⟩ | ⟨rfl, rfl, h1, h2⟩ | ⟨rfl, rfl, h1, h2⟩ | ⟨rfl, rfl, h1, h2⟩
      · go_wp2
        go_roundw
        case rel => exact ⟨.inr (.inl ⟨rfl, rfl⟩), trivial⟩
        case measure => simp [intOf]
      · by_cases h1 : m4 < n
        · go_wp2
          go_roundw
          case rel => exact ⟨.inr (.inr (.inl ⟨rfl, rfl, h1⟩)), trivial⟩
          case measure => simp [intOf]
        · go_wp2
          go_roundw
          case rel => exact ⟨.inr (.inr (.inr (.inl ⟨rfl, rfl, h1⟩))), trivial⟩
          case measure => simp [intOf]
      · by_cases h2 : m5 < m4
        · go_wp2
          go_roundw
          case rel => exact ⟨.inr (.inr (.inr (.inr (.inr (.inl ⟨rfl, rfl, h1, h2⟩))))), trivial⟩
          case measure => simp [intOf]
        · go_wp2
          go_roundw
          case rel => exact ⟨.inr (.inr (.inr (.inr (.inl ⟨rfl, rfl, h1, h2⟩)))), trivial⟩
          case measure => simp [intOf]
      · by_cases h2 : m5 < n
        · go_wp2
          go_roundw
          case rel => exact ⟨.inr (.inr (.inr (.inr (.inr (.inr (.inl ⟨rfl, rfl, h1, h2⟩)))))), trivial⟩
          case measure => simp [intOf]
        · go_wp2
          go_roundw
          case rel => exact ⟨.inr (.inr (.inr (.inr (.inr (.inr (.inr ⟨rfl, rfl, h1, h2⟩)))))), trivial⟩
          case measure => simp [intOf]
      all_goals
        have HP := Lib.hid (pack_of HL.out HM4.out HM5.out)
        have hb6 := hb5.alloc (.cells #[.slice A2 n cap2, .slice A4 m4 cap4, .slice A5 m5 cap5] 103)
        have c0 : w5.cell? _ = some _ := hb5.cell 0
        have c1 : w5.cell? _ = some _ := hb5.cell 1
        have f0 := hb5.free 0
        have f1 := hb5.free 1
        have hlt := hb5.lt
        have HH := Lib.hid h1
        have HH2 := Lib.hid h2
        clear hb5 hb6
        go_wp2
      · refine bodyPost_ret (v := .tuple #[.agg #[.int .i64 1, .slice A4 m4 cap4], .int .i64 0]) (by simp [results, Tryd.results18, go_sem, c0, c1, hlt]) rfl ⟨((hN5.setCell (by simp) _).setCell (by simp) _).alloc _, .inr ⟨HE.out, A4, m4, cap4, ?_, ?_⟩⟩
        · rw [HP.out.1, if_pos HH.out, if_neg HH2.out]
        · rw [HP.out.2, if_pos HH.out, if_neg HH2.out]
          exact (((r4.out.setBelow (by exact hb1) _).setBelow (by exact hb1) _).alloc _).base_le (Nat.le_of_lt hb1)
      · refine bodyPost_ret (v := .tuple #[.agg #[.int .i64 2, .slice A5 m5 cap5], .int .i64 0]) (by simp [results, Tryd.results18, go_sem, c0, c1, hlt]) rfl ⟨((hN5.setCell (by simp) _).setCell (by simp) _).alloc _, .inr ⟨HE.out, A5, m5, cap5, ?_, ?_⟩⟩
        · rw [HP.out.1, if_pos HH.out, if_pos HH2.out]
        · rw [HP.out.2, if_pos HH.out, if_pos HH2.out]
          exact (((r5.out.setBelow (by exact hb1) _).setBelow (by exact hb1) _).alloc _).base_le (Nat.le_of_lt hb1)
      · refine bodyPost_ret (v := .tuple #[.agg #[.int .i64 2, .slice A5 m5 cap5], .int .i64 0]) (by simp [results, Tryd.results18, go_sem, c0, c1, hlt]) rfl ⟨((hN5.setCell (by simp) _).setCell (by simp) _).alloc _, .inr ⟨HE.out, A5, m5, cap5, ?_, ?_⟩⟩
        · rw [HP.out.1, if_neg HH.out, if_pos HH2.out]
        · rw [HP.out.2, if_neg HH.out, if_pos HH2.out]
          exact (((r5.out.setBelow (by exact hb1) _).setBelow (by exact hb1) _).alloc _).base_le (Nat.le_of_lt hb1)
      · refine bodyPost_ret (v := .tuple #[.agg #[.int .i64 0, .slice A2 n cap2], .int .i64 0]) (by simp [results, Tryd.results18, go_sem, c0, c1, hlt]) rfl ⟨((hN5.setCell (by simp) _).setCell (by simp) _).alloc _, .inr ⟨HE.out, A2, n, cap2, ?_, ?_⟩⟩
        · rw [HP.out.1, if_neg HH.out, if_neg HH2.out]
        · rw [HP.out.2, if_neg HH.out, if_neg HH2.out]
          exact (((r2.out.setBelow (by exact hb1) _).setBelow (by exact hb1) _).alloc _).base_le (Nat.le_of_lt hb1)
  · have b1 : (serE xs != 0) = true := by simpa using hE
    have HE := Lib.hid hE
    clear hE
    have c0 : w1.cell? _ = some _ := hb.cell 0
    have c1 : w1.cell? _ = some _ := hb.cell 1
    have f0 := hb.free 0
    have f1 := hb.free 1
    have hlt := hb.lt
    clear hb
    have hN := hN1
    go_wp2
    exact bodyPost_ret (v := .tuple #[.agg #[.int .i64 0, .slice none 0 0], .int .i64 (serE xs)]) (by simp [results, Tryd.results18, go_sem, c0, c1]) rfl ⟨((((New.refl w).alloc _).trans hN).setCell (by simp) _).setCell (by simp) _, .inl ⟨HE.out, rfl⟩⟩
end Go.Proofs.YtkahjpbnlclhhaaDoor
