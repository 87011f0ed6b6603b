/- Contract: slow. -/
import Derived.Test.YtjpkcmlepjbamaaW18
import Derived.Test.YtjpkcmlepjbamaaSpecF
namespace Go.Proofs.Ytjpkcmlepjbamaa
open Go.RowKit Go.Sky

def clkV (off ch : Int) (A1 A2 A3 : Option Addr) (n1 n2 n3 c1 c2 c3 : Nat) : Array Value := #[.int .i64 off, .int .i64 ch, .slice A1 n1 c1, .slice A2 n2 c2, .slice A3 n3 c3]

theorem getD_of {xs : List Int} {i : Nat} {x : Int} (h : xs[i]? = some x) : xs.getD i 0 = x := by rw [List.getD_eq_getElem?_getD, h]; rfl

theorem Size_is (n M : Int) (w : World) (h : M = max n (-n)) (hn : -4000000000000000 ≤ n) (hn1 : n ≤ 4000000000000000) : Calls Try.prog 84 #[.int .i64 n] w fun e w' => e = .returned (.int .i64 M) ∧ w = w' := h ▸ Size_any n w hn hn1

set_option maxRecDepth 100000 in
set_option maxHeartbeats 2000000 in
theorem slow_any (off ch : Int) (A1 A2 A3 : Option Addr) (n c1 c2 c3 : Nat) (bs hs : List Int) (w : World) (hn : n ≤ 1000) (hch : -1000 ≤ ch) (hch1 : ch ≤ 1000)
    (hb : ∀ i, i < n → (0 ≤ bs.getD i 0 ∧ bs.getD i 0 ≤ 10000) ∧ (0 ≤ hs.getD i 0 ∧ hs.getD i 0 ≤ 10000)) (h2 : Rd w 1 encI A2 n bs) (h3 : Rd w 1 encI A3 n hs) :
    Calls Try.prog 24 #[.agg #[.int .i64 off, .int .i64 ch, .slice A1 n c1, .slice A2 n c2, .slice A3 n c3]] w fun e w' => e = .returned (.bool (slowF ch bs hs n)) ∧ New w w' := by
  have H2 := Lib.hid h2
  have H3 := Lib.hid h3
  have HB := Lib.hid hb
  clear h2 h3 hb
  obtain ⟨M, hM⟩ : ∃ M, M = max ch (-ch) := ⟨_, rfl⟩
  have hM0 : 0 ≤ M := by omega
  have hM1 : M ≤ 1000 := by omega
  have HM := Lib.hid hM
  clear hM
  go_enter Try.func24, Try.ntmps24
  go_wp2_with fail
  go_loopw [3] (fun i wr => ∃ k : Nat, k ≤ n ∧ i = .int .i64 k ∧ Hid (slowF ch bs hs k = false) ∧ Bx wr w.heap.size 32 #[.int .i64 off, .int .i64 ch, .slice A1 n c1, .slice A2 n c2, .slice A3 n c3] ∧ New w wr) (fun i _ => n - (intOf i).toNat)
  case atStart => exact ⟨0, by omega, rfl, rfl, Bx.mk _ _ _, (New.refl _).alloc _⟩
  case round =>
    obtain ⟨k, hk, rfl, HF, hbx, hN⟩ := hrel
    have p0 : wr.cell? _ = some _ := hbx.cell 0
    have p1 : wr.cell? _ = some _ := hbx.cell 1
    have p2 : wr.cell? _ = some _ := hbx.cell 2
    have p3 : wr.cell? _ = some _ := hbx.cell 3
    have p4 : wr.cell? _ = some _ := hbx.cell 4
    have hlt0 := hbx.lt
    by_cases hlt : k < n
    · obtain ⟨b2, o2, x, rfl, hb2, hx, hcx⟩ := (H2.out.keep hN).at_ hlt
      obtain ⟨b3, o3, y, rfl, hb3, hy, hcy⟩ := (H3.out.keep hN).at_ hlt
      have g2 := hcx 0 _ rfl
      have g3 := hcy 0 _ rfl
      simp only [Nat.add_zero, Nat.mul_one] at g2 g3
      have hbd := HB.out k hlt
      rw [getD_of hx, getD_of hy] at hbd
      obtain ⟨⟨x0, x1⟩, y0, y1⟩ := hbd
      have l1 : (0 : Int) ≤ (k : Int) := by omega
      have l2 : (k : Int) < (n : Int) := by omega
      have hp0 : 0 ≤ 2 * M * (x + y) := Int.mul_nonneg (by omega) (by omega)
      have hp1 : 2 * M * (x + y) ≤ 2000 * 20000 := Int.mul_le_mul (by omega) (by omega) (by omega) (by omega)
      have HS := Lib.hid (show slowF ch bs hs (k + 1) = decide (1000 ≤ 2 * M * (x + y)) by rw [slowF, HF.out, getD_of hx, getD_of hy, HM.out]; rfl)
      clear hcx hcy hx hy
      go_wp2_with fail
      (refine wp_region_new (by kernel_rfl) (by kernel_rfl) ?_; (repeat (go_big_quiet_step ((go_at_call 84; exact quiet_same (Size_is _ M _ HM.out (by omega) (by omega)))))); refine wpQuiet_nil ?_)
      intro w2 n2
      by_cases hs1 : 1000 ≤ 2 * M * (x + y)
      · have HT := Lib.hid (slowF_mono (ch := ch) (bs := bs) (hs := hs) (k := k + 1) (by rw [HS.out]; exact decide_eq_true hs1) (show k + 1 ≤ n by omega))
        go_wp2_with fail
        go_outline
        go_ret
        exact ⟨by rw [HT.out]; rfl, hN.trans n2⟩
      · have HT := Lib.hid (show slowF ch bs hs (k + 1) = false by rw [HS.out]; exact decide_eq_false hs1)
        have hbx2 := hbx.keep n2
        go_wp2_with fail
        go_roundw
        case rel => exact ⟨k + 1, by omega, by go_num, HT.out, hbx2, hN.trans n2⟩
        case measure => simp [intOf]; omega
    · go_wp2_with fail
      go_ret
      obtain rfl : k = n := by omega
      exact ⟨by rw [HF.out]; rfl, hN⟩

end Go.Proofs.Ytjpkcmlepjbamaa
