/- Contracts: timeErr, offset, common. -/
import Derived.Test.YtjpkcmlepjbamaaW1
namespace Go.Proofs.Ytjpkcmlepjbamaa
open Go.RowKit Go.Sky

def encR (r : Int × Int) : List Value := [.int .i64 r.1, .int .i64 r.2]
def encX (x : Exch) : List Value := [.int .i64 x.s, .int .i64 x.t, .int .i64 x.r]

set_option maxHeartbeats 400000 in
theorem timeErr_any (d t : Int) (w : World) : Calls Try.prog 88 #[.int .i64 d, .int .i64 t] w fun e w' => e = .returned (.int .i64 (timeE d t)) ∧ New w w' := by
  go_enter Try.func88, Try.ntmps88
  go_wp2_with (first
    | (go_at_call 96; refine (within_any _ _ _ _).mono ?_; rintro e w' ⟨rfl, rfl⟩)
    | (go_at_call 87; refine (isTick_any _ _).mono ?_; rintro e w' ⟨rfl, rfl⟩)
    | (go_at_call 86; refine (unless_any _ _ _).mono ?_; rintro e w' ⟨rfl, rfl⟩)
    | (go_at_call 85; refine (first_any _ 2 2 [_, _] _ (by omega) rfl (cells_new _ _ _ _ (by simp) _ rfl)).mono ?_; rintro e w' ⟨rfl, rfl⟩))
  go_ret
  exact ⟨rfl, (New.refl _).alloc _⟩

set_option maxHeartbeats 1000000 in
theorem offset_any (s t r d m : Int) (w : World) (hs : 0 ≤ s) (hsr : s ≤ r) (hr1 : r ≤ 1000000000000) (ht : 0 ≤ t) (ht1 : t ≤ 1000000000000) (hd : 0 ≤ d) (hd1 : d ≤ 1000) (hm : 0 ≤ m) (hm1 : m ≤ 1000000000000) :
    Calls Try.prog 89 #[.agg #[.int .i64 s, .int .i64 t, .int .i64 r], .int .i64 d, .int .i64 m] w fun e w' =>
      e = .returned (.agg #[.int .i64 (offBy ⟨s, t, r⟩ d m).1, .int .i64 (offBy ⟨s, t, r⟩ d m).2]) ∧ New w w' := by
  obtain ⟨z, hz⟩ : ∃ z, z = max3 (s - m) (m - r) := ⟨_, rfl⟩
  have hz0 : 0 ≤ z := by rw [hz]; unfold max3; omega
  have hz1 : z ≤ 1000000000000 := by rw [hz]; unfold max3; omega
  have hp0 : 0 ≤ d * z := Int.mul_nonneg hd hz0
  have hp1 : d * z ≤ 1000 * 1000000000000 := Int.mul_le_mul hd1 hz1 hz0 (by omega)
  have hu0 : 0 ≤ upS (d * z) 1000 := by unfold upS; omega
  have hu1 : upS (d * z) 1000 ≤ 2000000000000 := by unfold upS; omega
  have hfin : offBy ⟨s, t, r⟩ d m = (t - r - upS (d * z) 1000, t - s + upS (d * z) 1000) := by rw [hz]; rfl
  have HF := Lib.hid hfin; clear hfin
  obtain ⟨hc1, hc2, h0⟩ | ⟨hc1, hc2, h0⟩ | ⟨hc1, hc2, h0⟩ : (m < s ∧ m ≤ r ∧ z = s - m) ∨ (s ≤ m ∧ m ≤ r ∧ z = 0) ∨ (s ≤ m ∧ r < m ∧ z = m - r) := by
    rw [hz]; unfold max3; omega
  all_goals
    clear hz
    have HZ := Lib.hid h0
    rw [h0] at hp0 hp1 hu0 hu1
    clear h0
    have q0 : 0 ≤ upS 0 1000 := by decide
    have q1 : upS 0 1000 ≤ 0 := by decide
    go_enter Try.func89, Try.ntmps89
    go_wp2_with (go_at_call 118; refine (up_any _ _ _ (by omega) (by omega) (by omega) (by omega)).mono ?_; rintro e w' ⟨rfl, rfl⟩)
    exact bodyPost_ret (v := .agg #[.int .i64 (offBy ⟨s, t, r⟩ d m).1, .int .i64 (offBy ⟨s, t, r⟩ d m).2]) (by rw [HF.out, HZ.out]; simp [results, Try.results89, go_sem]) rfl ⟨rfl, ((New.refl _).alloc _).alloc _⟩

set_option maxHeartbeats 1000000 in
theorem common_any (A : Option Addr) (n cap : Nat) (xs : List (Int × Int)) (w : World) (hn : 0 < n) (hn2 : n ≤ 1000) (hr : Rd w 2 encR A n xs) :
    Calls Try.prog 83 #[.slice A n cap] w fun e w' => e = .returned (.tuple #[.agg #[.int .i64 (comS xs).1, .int .i64 (comS xs).2], .bool (decide ((comS xs).1 ≤ (comS xs).2))]) ∧ New w w' := by
  obtain ⟨b, o, rfl, hb, hc⟩ := hr.some_ hn
  have HL := Lib.hid hr.len; clear hr
  obtain ⟨x0, hx0⟩ : ∃ x, xs[0]? = some x := ⟨_, List.getElem?_eq_getElem (by rw [HL.out]; omega)⟩
  have h00 := hc 0 x0 hx0 0 _ rfl
  have h01 := hc 0 x0 hx0 1 _ rfl
  simp at h00 h01
  have HX0 := Lib.hid (show xs.headD (0, 0) = x0 by cases xs with | nil => simp at hx0 | cons y ys => simpa using hx0)
  clear hx0
  have HC := Lib.hid hc; clear hc
  go_enter Try.func83, Try.ntmps83
  go_wp2
  go_loopw [12] (fun i wr => ∃ k : Nat, ∃ c : Int × Int, k ≤ n ∧ i = .int .i64 k ∧ Hid (c = foldTo rCut x0 xs k) ∧ Bx wr w.heap.size 38 #[.int .i64 0, .int .i64 0] ∧ Bx wr (w.heap.size + 1) 38 #[.int .i64 c.1, .int .i64 c.2] ∧ New w wr)
    (fun i _ => n - (intOf i).toNat)
  case atStart => exact ⟨0, x0, by omega, rfl, rfl, (Bx.mk _ _ _).alloc _, Bx.mk_at _ _ _ _ (by simp), ((New.refl _).alloc _).alloc _⟩
  case round =>
    obtain ⟨k, c, hk, rfl, HF, hz, hy, hN⟩ := hrel
    have c0 : wr.cell? _ = some _ := hy.cell 0
    have c1 : wr.cell? _ = some _ := hy.cell 1
    have f0 := hy.free 0
    have f1 := hy.free 1
    have hsz := hy.lt
    by_cases hlt : k < n
    · obtain ⟨x, hx⟩ : ∃ x, xs[k]? = some x := ⟨_, List.getElem?_eq_getElem (by rw [HL.out]; omega)⟩
      have g0 := hN.cell (HC.out k x hx 0 _ rfl)
      have g1 := hN.cell (HC.out k x hx 1 _ rfl)
      have HS := Lib.hid (foldTo_step rCut x0 xs k x hx)
      simp only [Nat.add_zero] at g0
      clear hx
      go_wp2
      all_goals
        go_roundw
        case rel => exact ⟨k + 1, rCut c x, by omega, by go_num, by rw [HS.out, ← HF.out]; rfl, ((hz.far (p := ⟨_, _, _⟩) (by simp) _).far (p := ⟨_, _, _⟩) (by simp) _).alloc _, by
          have e1 : max c.1 x.1 = if c.1 < x.1 then x.1 else c.1 := by omega
          have e2 : min c.2 x.2 = if x.2 < c.2 then x.2 else c.2 := by omega
          simp only [rCut, e1, e2]
          exact ((hy.set 0 _).set 1 _).alloc _, (((hN.setCell (by simp) _).setCell (by simp) _).alloc _)⟩
        case measure => simp [intOf]; omega
    · have y0 : wr.cell? _ = some _ := hz.cell 0
      have y1 : wr.cell? _ = some _ := hz.cell 1
      have yf0 := hz.free 0
      have yf1 := hz.free 1
      have HE := Lib.hid (show c = comS xs by rw [HF.out, foldTo_all _ _ _ _ (by rw [HL.out]; omega)]; unfold comS; rw [HX0.out])
      go_wp2
      go_region
      all_goals
        go_wp2
        exact bodyPost_ret (v := .tuple #[.agg #[.int .i64 c.1, .int .i64 c.2], .bool (decide (c.1 ≤ c.2))]) (by simp [results, Try.results83, go_sem, y0, y1]) rfl ⟨by rw [HE.out], (((hN.setCell (by simp) _).setCell (by simp) _).drew)⟩
end Go.Proofs.Ytjpkcmlepjbamaa
