/- Contracts: the insertion sort of ints; the stable sort at 21 or fewer. -/
import Derived.Test.YtjpkcmlepjbamaaW45
namespace Go.Proofs.Ytjpkcmlepjbamaa
open Go.RowKit Go.Sky

theorem encN_len (x : Nat) : (encN x).length = 1 := rfl
theorem encN_one (x : Nat) : ∀ u ∈ encN x, u.oneCell' = true := by intro u hu; simp [encN] at hu; subst hu; rfl
theorem cmpIs {g : Nat} {c : Value} {q : List Sky.Item} {n base : Nat} {w : World} (hc : ∀ i y, i < n → y < n → ∀ W, Below base w W → Calls Try.prog g #[.int .i64 ((i : Nat) : Int), .int .i64 ((y : Nat) : Int), c] W fun e w' => e = .returned (.int .i64 (cmpQ q i y)) ∧ New W w')
    {i y : Nat} (hi : i < n) (hy : y < n) {v : Int} (h : cmpQ q i y = v) {W : World} (hW : Below base w W) :
    Calls Try.prog g #[.int .i64 ((i : Nat) : Int), .int .i64 ((y : Nat) : Int), c] W fun e w' => e = .returned (.int .i64 v) ∧ New W w' := h ▸ hc i y hi hy W hW

set_option maxRecDepth 100000 in
set_option maxHeartbeats 4000000 in
theorem insSort (g : Nat) (c : Value) (q : List Sky.Item) (G n m cap base : Nat) (w : World) (hG : base ≤ G) (hm : 1 ≤ m) (hmn : m ≤ n) (hn : n ≤ 1000000)
    (eg : ∀ (args : Array Value) (W : World), (callFunc g args).run Try.prog W = .ok (.enter g args) W)
    (hc : ∀ i y, i < n → y < n → ∀ W, Below base w W → Calls Try.prog g #[.int .i64 ((i : Nat) : Int), .int .i64 ((y : Nat) : Int), c] W fun e w' => e = .returned (.int .i64 (cmpQ q i y)) ∧ New W w')
    (hb : base ≤ w.heap.size) (ho : Own w base 3 1 encN (some ⟨G, 0, none⟩) n cap (rowI q 1 n)) :
    Calls Try.prog 163 #[.slice (some ⟨G, 0, none⟩) n cap, .int .i64 0, .int .i64 (m : Int), .func (.func g) #[] #[c]] w fun e w' => e = .returned (.tuple #[]) ∧ Own w' base 3 1 encN (some ⟨G, 0, none⟩) n cap (rowI q m n) ∧ Below base w w' := by
  have HC := Lib.hid hc; clear hc
  go_enter Try.func163, Try.ntmps163
  go_wp2
  go_loopw [8, 9] (fun vi _ wr => ∃ i : Nat, 1 ≤ i ∧ i ≤ m ∧ vi = .int .i64 (i : Int) ∧ Own wr base 3 1 encN (some ⟨G, 0, none⟩) n cap (rowI q i n) ∧ Below base w wr) (fun vi _ _ => m - (intOf vi).toNat)
  case atStart => exact ⟨1, by omega, hm, rfl, ho, Below.refl _ _⟩
  case round =>
    clear ho
    obtain ⟨i, hi1, him, rfl, ho, hB⟩ := hrel
    by_cases hlt : i < m
    · have ho2 : Own wr base 3 1 encN (some ⟨G, 0, none⟩) n cap (midI (sortQ q i) i i n) := by rw [← mid_start q (by omega)]; exact ho
      clear ho
      go_wp2
      go_loopw [9] (fun vj wx => ∃ j : Nat, j ≤ i ∧ vj = .int .i64 (j : Int) ∧ Own wx base 3 1 encN (some ⟨G, 0, none⟩) n cap (midI (sortQ q i) i j n) ∧ Hid (cutI (befQ q i) (sortQ q i) i = cutI (befQ q i) (sortQ q i) j) ∧ Below base w wx) (fun vj _ => (intOf vj).toNat)
      case atStart => exact ⟨i, by omega, rfl, ho2, rfl, hB⟩
      case round =>
        clear ho2 hB
        obtain ⟨j, hji, rfl, ho, HK, hB⟩ := hrel
        rcases Nat.eq_zero_or_pos j with rfl | hj0
        · have hd : decide ((0 : Int) < ((0 : Nat) : Int)) = false := rfl
          have HE := Lib.hid (mid_end (q := q) (n := n) (show cutI (befQ q i) (sortQ q i) i = 0 from HK.out))
          go_wp2
          (refine wp_region_new (by kernel_rfl) (by kernel_rfl) ?_; (repeat (go_big_quiet_step ((fail)))); refine wpQuiet_nil ?_)
          intro w2 n2
          go_wp2
          go_roundw
          case rel => exact ⟨i + 1, by omega, by omega, by go_num, by rw [← HE.out]; exact ho.keep n2, hB.trans (n2.below (by have := hB.size; omega))⟩
          case measure => simp [intOf]; omega
        · obtain ⟨p, rfl⟩ : ∃ p, j = p + 1 := ⟨j - 1, by omega⟩
          rw [show ((p + 1 : Nat) : Int) = (p : Int) + 1 by omega]
          obtain ⟨y, hy⟩ : ∃ y, (sortQ q i).getD p 0 = y := ⟨_, rfl⟩
          have hyi : y < i := hy ▸ getD_lt (by omega)
          have HY := Lib.hid hy
          have hl := sortQ_len q i
          have e1 := mid_at (x := i) (n := n) hl (j := p + 1) (by omega)
          have e0 := mid_left (x := i) (n := n) hl (j := p) (by omega)
          rw [hy] at e0
          have HS := Lib.hid (mid_step (x := i) (n := n) hl (j := p) (by omega))
          clear hy hl
          have c1 := ho.cell1 (p + 1) i (.int .i64 (i : Int)) e1 rfl
          have c0 := ho.cell1 p y (.int .i64 (y : Int)) e0 rfl
          have hGl := World.block_lt_of_cell? _ _ c0
          have d0 : decide ((0 : Int) < (p : Int) + 1) = true := decide_eq_true (by omega)
          have dz : (0 : Int) < (p : Int) + 1 := by omega
          have i1 : (p : Int) + 1 < (n : Int) := by omega
          have i2 : (0 : Int) ≤ (p : Int) := by omega
          have i3 : (p : Int) < (n : Int) := by omega
          obtain ⟨cv, hcv⟩ : ∃ c, cmpQ q i y = c := ⟨_, rfl⟩
          have HCV := Lib.hid hcv
          have hneg := cmpQ_neg (q := q) hyi
          rw [hcv] at hneg
          have HNEG := Lib.hid hneg
          clear hneg hcv e0 e1
          by_cases hc0 : cv < 0
          · have dc : decide (cv < 0) = true := decide_eq_true hc0
            have HK2 := Lib.hid (show cutI (befQ q i) (sortQ q i) i = cutI (befQ q i) (sortQ q i) p by
              rw [HK.out, cutI_yes (by rw [HY.out]; exact HNEG.out.1 hc0)])
            go_wp2
            (refine wp_region_new (by kernel_rfl) (by kernel_rfl) ?_; (repeat (go_big_quiet_step (((exact quiet_new (cmpIs HC.out (by omega) (by omega) HCV.out (hB.trans ((plus_new _ _).below (by have := hB.size; omega))))))))); refine wpQuiet_nil ?_)
            intro w2 n2
            have o2 := ho.keep n2
            have B2 : Below base w w2 := hB.trans (n2.below (by have := hB.size; omega))
            have k1 := n2.cell c1
            have k0 := n2.cell c0
            have f1 := o2.free (p + 1)
            have f0 := o2.free p
            have k0' : (w2.setCell ⟨G, p + 1, none⟩ (.int .i64 (y : Int))).cell? ⟨G, p, none⟩ = some (.int .i64 (y : Int)) := (World.cell?_setCell_other _ _ _ _ (by intro e; simp only [Addr.mk.injEq] at e; omega)).trans k0
            have HO := Lib.hid (show Own ((w2.setCell ⟨G, p + 1, none⟩ (.int .i64 (y : Int))).setCell ⟨G, p, none⟩ (.int .i64 (i : Int))).drew base 3 1 encN (some ⟨G, 0, none⟩) n cap (midI (sortQ q i) i p n) by
              rw [← HS.out, HY.out]
              exact ((o2.set1 (p + 1) y _ (by omega) rfl).set1 p i _ (by omega) rfl).drew)
            have HB := Lib.hid (show Below base w ((w2.setCell ⟨G, p + 1, none⟩ (.int .i64 (y : Int))).setCell ⟨G, p, none⟩ (.int .i64 (i : Int))).drew from ((B2.setCell hG _).setCell hG _).drew)
            clear c1 c0 ho hB o2 B2 n2
            go_wp2
            go_region
            go_wp2
            go_roundw
            case rel => exact ⟨p, by omega, by go_num, HO.out, HK2, HB.out⟩
            case measure => simp [intOf]
          · have dc : decide (cv < 0) = false := decide_eq_false hc0
            have HE := Lib.hid (mid_end (q := q) (n := n) (show cutI (befQ q i) (sortQ q i) i = p + 1 from by
              rw [HK.out, cutI_no (by rw [HY.out]; cases hh : befQ q i y with | false => rfl | true => exact absurd (HNEG.out.2 hh) hc0)]))
            go_wp2
            (refine wp_region_new (by kernel_rfl) (by kernel_rfl) ?_; (repeat (go_big_quiet_step (((exact quiet_new (cmpIs HC.out (by omega) (by omega) HCV.out (hB.trans ((plus_new _ _).below (by have := hB.size; omega))))))))); refine wpQuiet_nil ?_)
            intro w2 n2
            go_wp2
            go_roundw
            case rel => exact ⟨i + 1, by omega, by omega, by go_num, by rw [← HE.out]; exact ho.keep n2, hB.trans (n2.below (by have := hB.size; omega))⟩
            case measure => simp [intOf]; omega
    · obtain rfl : i = m := by omega
      go_wp2
      go_end0
      exact ⟨rfl, ho, hB⟩

theorem insTriv (f : Value) (A : Option Addr) (n a b cap : Nat) (w : World) (hb : b ≤ a + 1) (ha : a ≤ 1000000) :
    Calls Try.prog 163 #[.slice A n cap, .int .i64 (a : Int), .int .i64 (b : Int), f] w fun e w' => e = .returned (.tuple #[]) ∧ w = w' := by
  have h : ¬ (a : Int) + 1 < (b : Int) := by omega
  go_enter Try.func163, Try.ntmps163
  go_wp2
  go_loopw [8, 9] (fun vi _ wr => vi = .int .i64 ((a : Int) + 1) ∧ wr = w) (fun _ _ _ => 0)
  case atStart => exact ⟨by go_num, rfl⟩
  case round =>
    obtain ⟨rfl, rfl⟩ := hrel
    go_wp2
    go_end0
    exact ⟨rfl, rfl⟩
end Go.Proofs.Ytjpkcmlepjbamaa
