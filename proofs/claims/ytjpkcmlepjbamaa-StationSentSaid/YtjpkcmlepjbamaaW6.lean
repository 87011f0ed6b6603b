/- Contracts: ContainsFunc at numbers, seriesErr, Ints, SamePacked. -/
import Derived.Test.YtjpkcmlepjbamaaW5
namespace Go.Proofs.Ytjpkcmlepjbamaa
open Go.RowKit Go.Sky

theorem enters_go {f : FuncId} {fn : Func} {c : Code} (hf : (Try.prog).funcs[f]? = some fn) (hname : (fn.name == "runtime.NumGoroutine") = false) (hb : fn.body = some c) :
    ∀ (args : Array Value) (W : World), (callFunc f args).run Try.prog W = .ok (.enter f args) W := by
  intro args w
  have h1 : fn.name ≠ "runtime.NumGoroutine" := by simpa using hname
  simp [callFunc, hf, h1, hb, mark]

set_option maxRecDepth 100000 in
set_option maxHeartbeats 400000 in
theorem containsFuncI (g : Nat) (cb : Array Value) (p : Int → Bool) (A : Option Addr) (n cap : Nat) (xs : List Int) (w : World) (hn : n ≤ 1000000) (hr : Rd w 1 encI A n xs) (eg : ∀ (args : Array Value) (W : World), (callFunc g args).run Try.prog W = .ok (.enter g args) W)
    (hp : ∀ x W, New w W → Calls Try.prog g (#[.int .i64 x] ++ cb) W fun e w' => e = .returned (.bool (p x)) ∧ New W w') :
    Calls Try.prog 135 #[.slice A n cap, .func (.func g) #[] cb] w fun e w' => e = .returned (.bool (xs.any p)) ∧ New w w' := by
  have HR := Lib.hid hr; clear hr
  have HP := Lib.hid hp; clear hp
  have HG := Lib.hid eg; clear eg
  have HA := Lib.hid (idxS_any p xs)
  go_enter Try.func135, Try.ntmps135
  go_wp2_with (go_at_call 103; refine (idxFuncI g cb p A n cap xs _ hn HR.out HG.out HP.out).mono ?_; rintro e w1 ⟨rfl, hn1⟩)
  go_ret
  exact ⟨by rw [← HA.out]; rfl, hn1⟩

def strange (n : Int) : Bool := !inR n (-1000000000) 1000000000
def serE (xs : List Int) : Int := firstE [errU (decide (((xs.length : Nat) : Int) ≤ 200)) 8, errU (!xs.any strange) 2]

set_option maxHeartbeats 400000 in
theorem seriesErr_any (A : Option Addr) (n cap : Nat) (xs : List Int) (w : World) (hn : n ≤ 1000000) (hr : Rd w 1 encI A n xs) :
    Calls Try.prog 92 #[.slice A n cap] w fun e w' => e = .returned (.int .i64 (serE xs)) ∧ New w w' := by
  have HL := Lib.hid hr.len
  have HR := Lib.hid hr; clear hr
  have HG := Lib.hid (enters_go (f := 136) Try.func136 (by kernel_rfl) rfl)
  have HS := Lib.hid (show serE xs = firstE [errU (decide ((n : Int) ≤ 200)) 8, errU (!xs.any strange) 2] by unfold serE; rw [HL.out])
  generalize hq : xs.any strange = q at *
  have HQ := Lib.hid hq; clear hq
  go_enter Try.func92, Try.ntmps92
  go_wp2_with (first
    | (go_at_call 135; refine (containsFuncI 136 #[] strange A n cap xs _ hn HR.out HG.out (fun x W _ => strange_any x W)).mono ?_; rintro e w1 ⟨he, hn1⟩; rw [HQ.out] at he; subst he)
    | (go_at_call 86; refine (unless_any _ _ _).mono ?_; rintro e w' ⟨rfl, rfl⟩)
    | (go_at_call 85; refine (first_any _ 2 2 [_, _] _ (by omega) rfl (cells_new _ _ _ _ (by simp) _ rfl)).mono ?_; rintro e w' ⟨rfl, rfl⟩))
  go_ret
  exact ⟨by rw [HS.out]; rfl, hn1.alloc _⟩

set_option maxRecDepth 100000 in
set_option maxHeartbeats 1000000 in
theorem ints_any (A B : Option Addr) (n m c1 c2 : Nat) (xs ys : List Int) (w : World) (hn : n ≤ 1000000) (hm : m ≤ 1000000) (hr : Rd w 1 encI A n xs) (hs : Rd w 1 encI B m ys) :
    Calls Try.prog 42 #[.slice A n c1, .slice B m c2] w fun e w' => e = .returned (.bool (decide (xs = ys))) ∧ New w w' := by
  have HR := Lib.hid hr; clear hr
  have HS := Lib.hid hs; clear hs
  by_cases hnm : n = m
  · subst hnm
    have d0 : ((n : Int) != (n : Int)) = false := by simp
    go_enter Try.func42, Try.ntmps42
    go_wp2
    go_loopw [5] (fun i wr => ∃ k : Nat, k ≤ n ∧ i = .int .i64 k ∧ Hid (xs.take k = ys.take k) ∧ New w wr) (fun i _ => n - (intOf i).toNat)
    case atStart => exact ⟨0, by omega, rfl, rfl, New.refl _⟩
    case round =>
      obtain ⟨k, hk, rfl, HF, hN⟩ := hrel
      by_cases hlt : k < n
      · obtain ⟨b, o, x, rfl, hb, hx, hc⟩ := (HR.out.keep hN).at_ hlt
        obtain ⟨b', o', y, rfl, hb', hy, hc'⟩ := (HS.out.keep hN).at_ hlt
        have g0 := hc 0 _ rfl
        have g1 := hc' 0 _ rfl
        simp only [Nat.add_zero, Nat.mul_one] at g0 g1
        have HX := Lib.hid (take_snoc xs k x hx)
        have HY := Lib.hid (take_snoc ys k y hy)
        have HX1 := Lib.hid hx
        have HY1 := Lib.hid hy
        clear hx hy hc hc'
        have l1 : (0 : Int) ≤ (k : Int) := by omega
        have l2 : (k : Int) < (n : Int) := by omega
        by_cases hxy : x = y
        · have dxy : (x != y) = false := by simpa using hxy
          have HXY := Lib.hid hxy; clear hxy
          go_wp2
          go_quiet (fail)
          go_wp2
          go_roundw
          case rel => exact ⟨k + 1, by omega, by go_num, by rw [HX.out, HY.out, HF.out, HXY.out]; rfl, hN.drewN _⟩
          case measure => simp [intOf]; omega
        · have dxy : (x != y) = true := by simpa using hxy
          have HXY := Lib.hid hxy; clear hxy
          go_wp2
          go_quiet (fail)
          go_wp2
          go_ret
          refine ⟨?_, hN.drewN _⟩
          have : ¬ xs = ys := by
            intro e
            subst e
            have h := HX1.out
            rw [HY1.out] at h
            injection h with h
            exact HXY.out h.symm
          simp [this]
      · go_wp2
        go_ret
        refine ⟨?_, hN⟩
        have : xs = ys := by
          have h := HF.out
          rw [List.take_of_length_le (by rw [HR.out.len]; omega), List.take_of_length_le (by rw [HS.out.len]; omega)] at h
          exact h
        simp [this]
  · have d0 : ((n : Int) != (m : Int)) = true := by simp; omega
    have hne : ¬ xs = ys := by
      intro e
      have h1 := HR.out.len
      have h2 := HS.out.len
      rw [e] at h1
      omega
    have HN := Lib.hid hne
    clear hnm hne
    go_enter Try.func42, Try.ntmps42
    go_wp2
    go_ret
    exact ⟨by simp [HN.out], New.refl _⟩

theorem ints_is (c : Bool) (A B : Option Addr) (n m c1 c2 : Nat) (xs ys : List Int) (w : World) (hn : n ≤ 1000000) (hm : m ≤ 1000000) (hr : Rd w 1 encI A n xs) (hs : Rd w 1 encI B m ys) (hc : decide (xs = ys) = c) :
    Calls Try.prog 42 #[.slice A n c1, .slice B m c2] w fun e w' => e = .returned (.bool c) ∧ New w w' := hc ▸ ints_any A B n m c1 c2 xs ys w hn hm hr hs

set_option maxHeartbeats 1000000 in
theorem samePacked_any (a b : Int) (A B : Option Addr) (n m c1 c2 : Nat) (xs ys : List Int) (w : World) (hn : n ≤ 1000000) (hm : m ≤ 1000000) (hr : Rd w 1 encI A n xs) (hs : Rd w 1 encI B m ys) :
    Calls Try.prog 44 #[.agg #[.int .i64 a, .slice A n c1], .agg #[.int .i64 b, .slice B m c2]] w fun e w' => e = .returned (.bool (a == b && decide (xs = ys))) ∧ New w w' := by
  have HR := Lib.hid hr; clear hr
  have HS := Lib.hid hs; clear hs
  have HRW : New w ((w.alloc (.cells #[.int .i64 a, .slice A n c1] 58)).alloc (.cells #[.int .i64 b, .slice B m c2] 58)) := ((New.refl _).alloc _).alloc _
  by_cases hab : a = b
  · have d0 : (a == b) = true := by simpa using hab
    clear hab
    go_enter Try.func44, Try.ntmps44
    go_wp2_with (go_at_call 42; refine (ints_any A B n m c1 c2 xs ys _ hn hm (by exact HR.out.keep HRW) (by exact HS.out.keep HRW)).mono ?_; rintro e w1 ⟨rfl, hn1⟩)
    go_ret
    exact ⟨by simp [d0], HRW.trans hn1⟩
  · have d0 : (a == b) = false := by simpa using hab
    clear hab
    go_enter Try.func44, Try.ntmps44
    go_wp2_with fail
    go_ret
    exact ⟨by simp [d0], HRW⟩
end Go.Proofs.Ytjpkcmlepjbamaa
