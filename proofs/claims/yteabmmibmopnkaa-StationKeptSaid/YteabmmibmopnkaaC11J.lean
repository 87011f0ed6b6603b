/- Contracts: cmp.Or; the order of items; the insertion sort.
   Contracts: the insertion sort of ints; the stable sort at 21 or fewer.
   Contracts: the stable sort at 20 or fewer; order; OrderOf.
   Contracts: order; OrderOf.
   Contracts: OrderOf; the reference of queues: errors, copies.
   Contracts: the reference of queues: itemErr, CheckQueue. -/
import Derived.BigQuiet
import Derived.BigRegion
import Derived.Deep.AppendLies
import Derived.Deep.Draws
import Derived.Deep.Quiet
import Derived.Deep.QuietTactic
import Derived.Laws.BitsAllLaws
import Derived.Lib.Hide
import Derived.StillTail
import Derived.Test.YteabmmibmopnkaaProg
import Derived.WalkKit
import Derived.WalkLawsBesides
import Derived.WalkSpells
import Derived.Test.YteabmmibmopnkaaC11B
import Derived.Test.YteabmmibmopnkaaC11G
import Derived.Test.YteabmmibmopnkaaC11H

namespace Go.Proofs.Yteabmmibmopnkaa
open Go.RowKit Go.Sky

set_option maxHeartbeats 400000 in
theorem or_any (B n cap : Nat) (xs : List Int) (w : World) (hn : n ≤ 1000) (hl : xs.length = n) (hc : ∀ j u, (xs.flatMap encI)[j]? = some u → w.cell? ⟨B, j, none⟩ = some u) :
    Calls Try.prog 86 #[.slice (some ⟨B, 0, none⟩) n cap] w fun e w' => e = .returned (.int .i64 (firstE xs)) ∧ w = w' := by
  have HC := Lib.hid hc; clear hc
  have HL := Lib.hid hl; clear hl
  go_enter Try.func86, Try.ntmps86
  go_wp2
  go_loop [5, 8] (fun _ i => ∃ k : Nat, k ≤ n ∧ i = .int .i64 k ∧ Hid (firstE xs = firstE (xs.drop k))) (fun _ i => n - (intOf i).toNat)
  case atStart => exact ⟨0, by omega, rfl, rfl⟩
  case round =>
    obtain ⟨k, hk, rfl, HF⟩ := hrel
    by_cases hlt : k < n
    · have hkl : k < xs.length := by rw [HL.out]; exact hlt
      have hcell : w.cell? ⟨B, k, none⟩ = some (.int .i64 xs[k]) := HC.out k _ (by
        have := flat_at (k := 1) (enc := encI) (fun _ => rfl) xs k xs[k] (List.getElem?_eq_getElem hkl) 0 _ rfl
        simpa using this)
      have HD := Lib.hid (firstE_drop xs k hkl)
      have HX := Lib.hid HF.out; clear HF
      generalize xs[k] = x at *
      by_cases hx : x = 0
      · have hx1 : (x != 0) = false := by simp [hx]
        have HX2 := Lib.hid hx
        clear hx
        go_wp2
        go_round
        case rel => exact ⟨k + 1, by omega, by go_num, by rw [HX.out, HD.out, if_pos HX2.out]; rfl⟩
        case measure => simp [intOf]; omega
      · have hx1 : (x != 0) = true := by simp [hx]
        go_wp2
        go_ret
        exact ⟨by rw [HX.out, HD.out, if_neg hx]; rfl, rfl⟩
    · go_wp2
      go_ret
      exact ⟨by rw [HF.out, List.drop_of_length_le (by rw [HL.out]; omega)]; rfl, rfl⟩

theorem cmpQ_of {q : List Sky.Item} {a b : Nat} {x y : Sky.Item} (hx : q[a]? = some x) (hy : q[b]? = some y) : cmpQ q a b = firstE [cmpI y.p x.p, cmpI x.t y.t] := by
  unfold cmpQ
  rw [hx, hy, firstE_two]
  dsimp only [Option.getD_some]
  by_cases h : cmpI y.p x.p = 0
  · rw [if_neg (by rw [h]; decide), if_pos h]
  · rw [if_pos h, if_neg h]

set_option maxRecDepth 100000 in
set_option maxHeartbeats 2000000 in
theorem ordClos (q : List Sky.Item) (A : Option Addr) (n cap a b B : Nat) (w : World) (ha : a < n) (hb : b < n) (hn : n ≤ 1000000) (hB : w.cell? ⟨B, 0, none⟩ = some (.slice A n cap)) (hr : Rd w 4 encM A n q) :
    Calls Try.prog 117 #[.int .i64 (a : Int), .int .i64 (b : Int), .pointer (some ⟨B, 0, none⟩)] w fun e w' => e = .returned (.int .i64 (cmpQ q a b)) ∧ New w w' := by
  obtain ⟨ba, oa, x, rfl, hba, hx, hcx⟩ := hr.at_ ha
  obtain ⟨bb, ob, y, e, hbb, hy, hcy⟩ := hr.at_ hb
  injection e with e
  injection e with e1 e2
  subst e1 e2
  have x1 := hcx 1 _ rfl
  have x3 := hcx 3 _ rfl
  have y1 := hcy 1 _ rfl
  have y3 := hcy 3 _ rfl
  have HV := Lib.hid (cmpQ_of hx hy)
  have i0 : (0 : Int) ≤ (a : Int) := by omega
  have i1 : (a : Int) < (n : Int) := by omega
  have j0 : (0 : Int) ≤ (b : Int) := by omega
  have j1 : (b : Int) < (n : Int) := by omega
  have lB := World.block_lt_of_cell? w _ hB
  clear hr hx hy hcx hcy hbb
  go_enter Try.func117, Try.ntmps117
  go_wp2
  (refine wp_region_tail 22 (by kernel_rfl) (by kernel_rfl) ?_; simp only [List.take_succ_cons, List.take_zero, List.drop_succ_cons, List.drop_zero]; (repeat (go_big_quiet_step (((go_at_call 88; exact quiet_same (cmpI_any _ _ _)))))); refine wpQuiet_nil ?_)
  intro w1 n1
  go_wp2_with (go_at_call 86; refine (or_any _ 2 2 [_, _] _ (by omega) rfl (cells_new _ _ _ _ (by simp) _ rfl)).mono ?_; rintro e w' ⟨rfl, rfl⟩; rw [← HV.out])
  go_ret
  exact ⟨rfl, n1.alloc _⟩
end Go.Proofs.Yteabmmibmopnkaa

namespace Go.Proofs.Yteabmmibmopnkaa
open Go.RowKit Go.Sky

theorem encN_len (x : Nat) : (encN x).length = 1 := rfl
theorem encN_one (x : Nat) : ∀ u ∈ encN x, u.oneCell' = true := by intro u hu; simp [encN] at hu; subst hu; rfl
theorem cmpIs {g : Nat} {c : Value} {q : List Sky.Item} {n base : Nat} {w : World} (hc : ∀ i y, i < n → y < n → ∀ W, Below base w W → Calls Try.prog g #[.int .i64 ((i : Nat) : Int), .int .i64 ((y : Nat) : Int), c] W fun e w' => e = .returned (.int .i64 (cmpQ q i y)) ∧ New W w')
    {i y : Nat} (hi : i < n) (hy : y < n) {v : Int} (h : cmpQ q i y = v) {W : World} (hW : Below base w W) :
    Calls Try.prog g #[.int .i64 ((i : Nat) : Int), .int .i64 ((y : Nat) : Int), c] W fun e w' => e = .returned (.int .i64 v) ∧ New W w' := h ▸ hc i y hi hy W hW

set_option maxRecDepth 100000 in
set_option maxHeartbeats 4000000 in
theorem insSort (g : Nat) (c : Value) (q : List Sky.Item) (G n m cap base : Nat) (w : World) (hG : base ≤ G) (hm : 1 ≤ m) (hmn : m ≤ n) (hn : n ≤ 1000000)
    (eg : ∀ (args : Array Value) (W : World), (callFunc g args).run Try.prog W = .ok (.enter g args) W)
    (hc : ∀ i y, i < n → y < n → ∀ W, Below base w W → Calls Try.prog g #[.int .i64 ((i : Nat) : Int), .int .i64 ((y : Nat) : Int), c] W fun e w' => e = .returned (.int .i64 (cmpQ q i y)) ∧ New W w')
    (hb : base ≤ w.heap.size) (ho : Own w base 3 1 encN (some ⟨G, 0, none⟩) n cap (rowI q 1 n)) :
    Calls Try.prog 180 #[.slice (some ⟨G, 0, none⟩) n cap, .int .i64 0, .int .i64 (m : Int), .func (.func g) #[] #[c]] w fun e w' => e = .returned (.tuple #[]) ∧ Own w' base 3 1 encN (some ⟨G, 0, none⟩) n cap (rowI q m n) ∧ Below base w w' := by
  have HC := Lib.hid hc; clear hc
  go_enter Try.func180, Try.ntmps180
  go_wp2
  go_loopw [8, 9] (fun vi _ wr => ∃ i : Nat, 1 ≤ i ∧ i ≤ m ∧ vi = .int .i64 (i : Int) ∧ Own wr base 3 1 encN (some ⟨G, 0, none⟩) n cap (rowI q i n) ∧ Below base w wr) (fun vi _ _ => m - (intOf vi).toNat)
  case atStart => exact ⟨1, by omega, hm, rfl, ho, Below.refl _ _⟩
  case round =>
    clear ho
    obtain ⟨i, hi1, him, rfl, ho, hB⟩ := hrel
    by_cases hlt : i < m
    · have ho2 : Own wr base 3 1 encN (some ⟨G, 0, none⟩) n cap (midI (sortQ q i) i i n) := by rw [← mid_start q (by omega)]; exact ho
      clear ho
      go_wp2
      go_loopw [9] (fun vj wx => ∃ j : Nat, j ≤ i ∧ vj = .int .i64 (j : Int) ∧ Own wx base 3 1 encN (some ⟨G, 0, none⟩) n cap (midI (sortQ q i) i j n) ∧ Hid (cutI (befQ q i) (sortQ q i) i = cutI (befQ q i) (sortQ q i) j) ∧ Below base w wx) (fun vj _ => (intOf vj).toNat)
      case atStart => exact ⟨i, by omega, rfl, ho2, rfl, hB⟩
      case round =>
        clear ho2 hB
        obtain ⟨j, hji, rfl, ho, HK, hB⟩ := hrel
        rcases Nat.eq_zero_or_pos j with rfl | hj0
        · have hd : decide ((0 : Int) < ((0 : Nat) : Int)) = false := rfl
          have HE := Lib.hid (mid_end (q := q) (n := n) (show cutI (befQ q i) (sortQ q i) i = 0 from HK.out))
          go_wp2
          (refine wp_region_new (by kernel_rfl) (by kernel_rfl) ?_; (repeat (go_big_quiet_step ((fail)))); refine wpQuiet_nil ?_)
          intro w2 n2
          go_wp2
          go_roundw
          case rel => exact ⟨i + 1, by omega, by omega, by go_num, by rw [← HE.out]; exact ho.keep n2, hB.trans (n2.below (by have := hB.size; omega))⟩
          case measure => simp [intOf]; omega
        · obtain ⟨p, rfl⟩ : ∃ p, j = p + 1 := ⟨j - 1, by omega⟩
          rw [show ((p + 1 : Nat) : Int) = (p : Int) + 1 by omega]
          obtain ⟨y, hy⟩ : ∃ y, (sortQ q i).getD p 0 = y := ⟨_, rfl⟩
          have hyi : y < i := hy ▸ getD_lt (by omega)
          have HY := Lib.hid hy
          have hl := sortQ_len q i
          have e1 := mid_at (x := i) (n := n) hl (j := p + 1) (by omega)
          have e0 := mid_left (x := i) (n := n) hl (j := p) (by omega)
          rw [hy] at e0
          have HS := Lib.hid (mid_step (x := i) (n := n) hl (j := p) (by omega))
          clear hy hl
          have c1 := ho.cell1 (p + 1) i (.int .i64 (i : Int)) e1 rfl
          have c0 := ho.cell1 p y (.int .i64 (y : Int)) e0 rfl
          have hGl := World.block_lt_of_cell? _ _ c0
          have d0 : decide ((0 : Int) < (p : Int) + 1) = true := decide_eq_true (by omega)
          have dz : (0 : Int) < (p : Int) + 1 := by omega
          have i1 : (p : Int) + 1 < (n : Int) := by omega
          have i2 : (0 : Int) ≤ (p : Int) := by omega
          have i3 : (p : Int) < (n : Int) := by omega
          obtain ⟨cv, hcv⟩ : ∃ c, cmpQ q i y = c := ⟨_, rfl⟩
          have HCV := Lib.hid hcv
          have hneg := cmpQ_neg (q := q) hyi
          rw [hcv] at hneg
          have HNEG := Lib.hid hneg
          clear hneg hcv e0 e1
          by_cases hc0 : cv < 0
          · have dc : decide (cv < 0) = true := decide_eq_true hc0
            have HK2 := Lib.hid (show cutI (befQ q i) (sortQ q i) i = cutI (befQ q i) (sortQ q i) p by
              rw [HK.out, cutI_yes (by rw [HY.out]; exact HNEG.out.1 hc0)])
            go_wp2
            (refine wp_region_new (by kernel_rfl) (by kernel_rfl) ?_; (repeat (go_big_quiet_step (((exact quiet_new (cmpIs HC.out (by omega) (by omega) HCV.out (hB.trans ((plus_new _ _).below (by have := hB.size; omega))))))))); refine wpQuiet_nil ?_)
            intro w2 n2
            have o2 := ho.keep n2
            have B2 : Below base w w2 := hB.trans (n2.below (by have := hB.size; omega))
            have k1 := n2.cell c1
            have k0 := n2.cell c0
            have f1 := o2.free (p + 1)
            have f0 := o2.free p
            have k0' : (w2.setCell ⟨G, p + 1, none⟩ (.int .i64 (y : Int))).cell? ⟨G, p, none⟩ = some (.int .i64 (y : Int)) := (World.cell?_setCell_other _ _ _ _ (by intro e; simp only [Addr.mk.injEq] at e; omega)).trans k0
            have HO := Lib.hid (show Own ((w2.setCell ⟨G, p + 1, none⟩ (.int .i64 (y : Int))).setCell ⟨G, p, none⟩ (.int .i64 (i : Int))).drew base 3 1 encN (some ⟨G, 0, none⟩) n cap (midI (sortQ q i) i p n) by
              rw [← HS.out, HY.out]
              exact ((o2.set1 (p + 1) y _ (by omega) rfl).set1 p i _ (by omega) rfl).drew)
            have HB := Lib.hid (show Below base w ((w2.setCell ⟨G, p + 1, none⟩ (.int .i64 (y : Int))).setCell ⟨G, p, none⟩ (.int .i64 (i : Int))).drew from ((B2.setCell hG _).setCell hG _).drew)
            clear c1 c0 ho hB o2 B2 n2
            go_wp2
            go_region
            go_wp2
            go_roundw
            case rel => exact ⟨p, by omega, by go_num, HO.out, HK2, HB.out⟩
            case measure => simp [intOf]
          · have dc : decide (cv < 0) = false := decide_eq_false hc0
            have HE := Lib.hid (mid_end (q := q) (n := n) (show cutI (befQ q i) (sortQ q i) i = p + 1 from by
              rw [HK.out, cutI_no (by rw [HY.out]; cases hh : befQ q i y with | false => rfl | true => exact absurd (HNEG.out.2 hh) hc0)]))
            go_wp2
            (refine wp_region_new (by kernel_rfl) (by kernel_rfl) ?_; (repeat (go_big_quiet_step (((exact quiet_new (cmpIs HC.out (by omega) (by omega) HCV.out (hB.trans ((plus_new _ _).below (by have := hB.size; omega))))))))); refine wpQuiet_nil ?_)
            intro w2 n2
            go_wp2
            go_roundw
            case rel => exact ⟨i + 1, by omega, by omega, by go_num, by rw [← HE.out]; exact ho.keep n2, hB.trans (n2.below (by have := hB.size; omega))⟩
            case measure => simp [intOf]; omega
    · obtain rfl : i = m := by omega
      go_wp2
      go_end0
      exact ⟨rfl, ho, hB⟩

theorem insTriv (f : Value) (A : Option Addr) (n a b cap : Nat) (w : World) (hb : b ≤ a + 1) (ha : a ≤ 1000000) :
    Calls Try.prog 180 #[.slice A n cap, .int .i64 (a : Int), .int .i64 (b : Int), f] w fun e w' => e = .returned (.tuple #[]) ∧ w = w' := by
  have h : ¬ (a : Int) + 1 < (b : Int) := by omega
  go_enter Try.func180, Try.ntmps180
  go_wp2
  go_loopw [8, 9] (fun vi _ wr => vi = .int .i64 ((a : Int) + 1) ∧ wr = w) (fun _ _ _ => 0)
  case atStart => exact ⟨by go_num, rfl⟩
  case round =>
    obtain ⟨rfl, rfl⟩ := hrel
    go_wp2
    go_end0
    exact ⟨rfl, rfl⟩
end Go.Proofs.Yteabmmibmopnkaa

namespace Go.Proofs.Yteabmmibmopnkaa
open Go.RowKit Go.Sky

set_option maxRecDepth 100000 in
set_option maxHeartbeats 2000000 in
theorem stable0 (f : Value) (A : Option Addr) (cap : Nat) (w : World) :
    Calls Try.prog 153 #[.slice A 0 cap, .int .i64 0, f] w fun e w' => e = .returned (.tuple #[]) ∧ w = w' := by
  go_enter Try.func153, Try.ntmps153
  go_wp2
  go_loopw [7, 8] (fun va vb wr => va = .int .i64 0 ∧ vb = .int .i64 20 ∧ wr = w) (fun _ _ _ => 0)
  case atStart => exact ⟨rfl, rfl, rfl⟩
  case round =>
    obtain ⟨rfl, rfl, rfl⟩ := hrel
    go_wp2_with fail
    refine (insTriv f A 0 0 0 cap _ (by omega) (by omega)).mono ?_
    rintro e w' ⟨rfl, rfl⟩
    go_wp2_with fail
    go_loopw [6] (fun v wx => v = .int .i64 20 ∧ wx = wr) (fun _ _ => 0)
    case atStart => exact ⟨rfl, rfl⟩
    case round =>
      obtain ⟨rfl, rfl⟩ := hrel
      go_wp2
      go_end0
      exact ⟨rfl, rfl⟩

set_option maxRecDepth 100000 in
set_option maxHeartbeats 4000000 in
theorem stable20 (g : Nat) (c : Value) (q : List Sky.Item) (G n cap base : Nat) (w : World) (hG : base ≤ G) (hm : 1 ≤ n) (hn : n ≤ 20)
    (eg : ∀ (args : Array Value) (W : World), (callFunc g args).run Try.prog W = .ok (.enter g args) W)
    (hc : ∀ i y, i < n → y < n → ∀ W, Below base w W → Calls Try.prog g #[.int .i64 ((i : Nat) : Int), .int .i64 ((y : Nat) : Int), c] W fun e w' => e = .returned (.int .i64 (cmpQ q i y)) ∧ New W w')
    (hb : base ≤ w.heap.size) (ho : Own w base 3 1 encN (some ⟨G, 0, none⟩) n cap (List.range n)) :
    Calls Try.prog 153 #[.slice (some ⟨G, 0, none⟩) n cap, .int .i64 (n : Int), .func (.func g) #[] #[c]] w fun e w' => e = .returned (.tuple #[]) ∧ Own w' base 3 1 encN (some ⟨G, 0, none⟩) n cap (sortQ q n) ∧ Below base w w' := by
  have ho1 : Own w base 3 1 encN (some ⟨G, 0, none⟩) n cap (rowI q 1 n) := by rw [rowI_start q hm]; exact ho
  clear ho
  have HC := Lib.hid hc; clear hc
  have HEG := Lib.hid eg; clear eg
  by_cases h20 : n = 20
  · have H20 := Lib.hid h20
    have hge : 20 ≤ n := by omega
    clear h20
    go_enter Try.func153, Try.ntmps153
    go_wp2
    go_loopw [7, 8] (fun va vb wr => (va = .int .i64 0 ∧ vb = .int .i64 20 ∧ wr = w) ∨ (va = .int .i64 20 ∧ vb = .int .i64 40 ∧ Own wr base 3 1 encN (some ⟨G, 0, none⟩) n cap (sortQ q n) ∧ Below base w wr)) (fun va _ _ => 40 - (intOf va).toNat)
    case atStart => exact .inl ⟨rfl, rfl, rfl⟩
    case round =>
      rcases hrel with ⟨rfl, rfl, rfl⟩ | ⟨rfl, rfl, ho2, hB⟩
      · go_wp2_with fail
        refine (insSort g c q G n 20 cap base _ hG (by omega) (by omega) (by omega) HEG.out HC.out hb ho1).mono ?_
        rintro e w2 ⟨rfl, o2, hB⟩
        have o3 : Own w2 base 3 1 encN (some ⟨G, 0, none⟩) n cap (sortQ q n) := by
          have := rowI_full q n
          rw [← this]
          rw [show (20 : Nat) = n from H20.out.symm] at o2
          exact o2
        clear o2
        go_wp2
        go_roundw
        case rel => exact .inr ⟨rfl, rfl, o3, hB⟩
        case measure => simp [intOf]
      · go_wp2_with fail
        refine (insTriv _ _ n 20 n cap _ (by omega) (by omega)).mono ?_
        rintro e w' ⟨rfl, rfl⟩
        go_wp2_with fail
        go_loopw [6] (fun v wx => v = .int .i64 20 ∧ wx = wr) (fun _ _ => 0)
        case atStart => exact ⟨rfl, rfl⟩
        case round =>
          obtain ⟨rfl, rfl⟩ := hrel
          go_wp2
          go_end0
          exact ⟨rfl, ho2, hB⟩
  · go_enter Try.func153, Try.ntmps153
    have hlt : n < 20 := by omega
    go_wp2
    go_loopw [7, 8] (fun va vb wr => va = .int .i64 0 ∧ vb = .int .i64 20 ∧ wr = w) (fun _ _ _ => 0)
    case atStart => exact ⟨rfl, rfl, rfl⟩
    case round =>
      obtain ⟨rfl, rfl, rfl⟩ := hrel
      go_wp2_with fail
      refine (insSort g c q G n n cap base _ hG hm (by omega) (by omega) HEG.out HC.out hb ho1).mono ?_
      rintro e w2 ⟨rfl, o2, hB⟩
      rw [rowI_full] at o2
      go_wp2_with fail
      go_loopw [6] (fun v wx => v = .int .i64 20 ∧ wx = w2) (fun _ _ => 0)
      case atStart => exact ⟨rfl, rfl⟩
      case round =>
        obtain ⟨rfl, rfl⟩ := hrel
        go_wp2
        go_end0
        exact ⟨rfl, o2, hB⟩
end Go.Proofs.Yteabmmibmopnkaa

namespace Go.Proofs.Yteabmmibmopnkaa
open Go.RowKit Go.Sky

theorem _root_.Go.Sky.New.trans' {w wr W : World} (h : New w wr) (k : Below (w.heap.size + 1) wr W) : New w W := Below.trans h (Below.mono k (by omega))
def mapN (xs : List Nat) : List Int := xs.map Int.ofNat
theorem rdN {w : World} {A : Option Addr} {n : Nat} {xs : List Nat} (h : Rd w 1 encN A n xs) : Rd w 1 encI A n (mapN xs) := by
  refine ⟨by unfold mapN; rw [List.length_map]; exact h.len, fun hn => ?_⟩
  obtain ⟨b, o, hA, hlt, hc⟩ := h.some_ hn
  refine ⟨b, o, hA, hlt, ?_⟩
  intro i x hx j u hu
  unfold mapN at hx
  rw [List.getElem?_map] at hx
  cases hy : xs[i]? with
  | none => rw [hy] at hx; cases hx
  | some y =>
    rw [hy] at hx
    injection hx with hx
    subst hx
    exact hc i y hy j u hu

set_option maxHeartbeats 1000000 in
theorem sortStable (g : Nat) (c : Value) (q : List Sky.Item) (A : Option Addr) (n cap base : Nat) (w : World) (hn : n ≤ 20)
    (eg : ∀ (args : Array Value) (W : World), (callFunc g args).run Try.prog W = .ok (.enter g args) W)
    (hc : ∀ i y, i < n → y < n → ∀ W, Below base w W → Calls Try.prog g #[.int .i64 ((i : Nat) : Int), .int .i64 ((y : Nat) : Int), c] W fun e w' => e = .returned (.int .i64 (cmpQ q i y)) ∧ New W w')
    (hb : base ≤ w.heap.size) (ho : Own w base 3 1 encN A n cap (List.range n)) :
    Calls Try.prog 116 #[.slice A n cap, .func (.func g) #[] #[c]] w fun e w' => e = .returned (.tuple #[]) ∧ Own w' base 3 1 encN A n cap (sortQ q n) ∧ Below base w w' := by
  have HC := Lib.hid hc; clear hc
  have HEG := Lib.hid eg; clear eg
  rcases ho.form with ⟨rfl, rfl, rfl, _⟩ | ⟨G, rfl, hG, _, _, _⟩
  · go_enter Try.func116, Try.ntmps116
    go_wp2_with fail
    refine (stable0 _ _ _ _).mono ?_
    rintro e w' ⟨rfl, rfl⟩
    go_wp2
    go_end0
    exact ⟨rfl, ho, Below.refl _ _⟩
  · rcases Nat.eq_zero_or_pos n with rfl | hm
    · go_enter Try.func116, Try.ntmps116
      go_wp2_with fail
      refine (stable0 _ _ _ _).mono ?_
      rintro e w' ⟨rfl, rfl⟩
      go_wp2
      go_end0
      exact ⟨rfl, ho, Below.refl _ _⟩
    · go_enter Try.func116, Try.ntmps116
      go_wp2_with fail
      refine (stable20 g c q G n cap base _ hG hm hn HEG.out HC.out hb ho).mono ?_
      rintro e w' ⟨rfl, o2, hB⟩
      go_wp2
      go_end0
      exact ⟨rfl, o2, hB⟩

set_option maxRecDepth 100000 in
set_option maxHeartbeats 4000000 in
theorem order_any (q : List Sky.Item) (A : Option Addr) (n cap : Nat) (w : World) (hn : n ≤ 20) (hr : Rd w 4 encM A n q) :
    Calls Try.prog 63 #[.slice A n cap] w fun e w' => ∃ A' c', e = .returned (.slice A' n c') ∧ Rd w' 1 encI A' n (mapN (sortQ q n)) ∧ New w w' := by
  obtain ⟨i0, hi, hz0, hz1, hz2⟩ := info_parts infoInt
  have HR := Lib.hid hr; clear hr
  have HG := Lib.hid (enters_go (f := 117) Try.func117 (by kernel_rfl) rfl)
  have b0 := Bx.mk w 42 #[.slice A n cap]
  have hN0 := (New.refl w).alloc (.cells #[.slice A n cap] 42)
  have c0 : World.cell? _ ⟨w.heap.size, 0, none⟩ = some (.slice A n cap) := b0.cell 0
  have l0 := b0.lt
  go_enter Try.func63, Try.ntmps63
  go_wp2
  go_loopw [3, 4, 7] (fun v _ i wr => ∃ (k : Nat) (A' : Option Addr) (c' : Nat), k ≤ n ∧ i = .int .i64 (k : Int) ∧ v = .slice A' k c' ∧ Own wr (w.heap.size + 1) 3 1 encN A' k c' (List.range k) ∧ New w wr ∧ Bx wr w.heap.size 42 #[.slice A n cap]) (fun _ _ i _ => n - (intOf i).toNat)
  case atStart => exact ⟨0, none, 0, by omega, rfl, rfl, Own.nil _ _ _ _ encN_len, hN0, b0⟩
  case round =>
    clear b0 hN0 c0 l0
    obtain ⟨k, A', c', hk, rfl, rfl, hown, hN, b1⟩ := hrel
    by_cases hlt : k < n
    · have hks := b1.lt
      go_wp2_with (at_builtin; refine wpList_push _ rfl _ _ 58 rfl 3 i0 _ 1 8 Try.underlying58 hi hz0 hz1 hz2 rfl (by omega) (w.heap.size + 1) encN A' k c' _ rfl (by exact hown.alloc _) _ 1 1 [k] rfl rfl (by omega) (by exact cells_new _ _ _ _ (by simp) _ rfl) encN_one (by unfold maxLen; omega) (by omega) (by simp; omega) ?_; intro g cap2 w4 hown4 hg4 hat4 hb4 hlt4 hN4)
      have b4 := (b1.alloc (.cells #[.int .i64 (k : Int)] 3)).grown hg4 (fun e => by
        rcases hown.form with ⟨h0, _⟩ | ⟨g', h0, hge, _⟩
        · rw [h0] at e; cases e
        · rw [h0] at e
          simp at e
          omega)
      go_roundw
      case rel => exact ⟨k + 1, _, cap2, by omega, by go_num, rfl, by rw [List.range_succ]; exact hown4, (hN.alloc _).grownOwn (hown.alloc _) (by omega) hg4, b4⟩
      case measure => simp [intOf]; omega
    · obtain rfl : k = n := by omega
      have hsz := b1.lt
      have hNs := hN.size
      go_wp2_with fail
      refine (sortStable 117 _ q A' k c' (w.heap.size + 1) _ hn HG.out (fun i y hi hy W hW => ordClos q A k cap i y w.heap.size W hi hy (by omega) ((b1.below hW (by omega)).cell 0) (HR.out.keep (hN.trans' hW))) (by omega) hown).mono ?_
      rintro e w2 ⟨rfl, o2, hB⟩
      go_wp2
      go_ret
      exact ⟨A', c', rfl, rdN o2.rd, hN.trans' hB⟩
end Go.Proofs.Yteabmmibmopnkaa

namespace Go.Proofs.Yteabmmibmopnkaa
open Go.RowKit Go.Sky

theorem infoItem : (Try.prog.info? 44).map (fun i => (i.zero, i.size, i.bytes)) = some (some (.agg #[.string .empty, .int .i64 0, .int .i64 0, .int .i64 0]), 4, 40) := by kernel_rfl

set_option maxHeartbeats 400000 in
theorem copyItems_any (A : Option Addr) (n cap : Nat) (xs : List Sky.Item) (w : World) (hn : n ≤ 1000000) (hr : Rd w 4 encM A n xs) :
    Calls Try.prog 20 #[.slice A n cap] w fun e w' => ∃ A' cap', e = .returned (.slice A' n cap') ∧ Own w' w.heap.size 44 4 encM A' n cap' xs ∧ New w w' := by
  obtain ⟨i0, hi, hz0, hz1, hz2⟩ := info_parts infoItem
  have HR := Lib.hid hr; clear hr
  go_enter Try.func20, Try.ntmps20
  go_wp2_with (at_builtin; refine wpList_pour _ rfl _ _ 42 rfl 44 i0 _ 4 40 Try.underlying42 hi hz0 hz1 hz2 rfl (by omega) w.heap.size encM _ 0 0 [] rfl (by exact Own.empty _ _ _ _ encM_len _ (by simp) (by simp)) A n cap xs rfl (by exact HR.out.keep ((New.refl _).alloc _)) encM_one (by unfold maxLen; omega) (by omega) (by simp) ?_; intro A2 cap2 w2 hown2 hg2 hN2)
  go_ret
  refine ⟨A2, cap2, rfl, ?_, hN2 w ((New.refl w).alloc _) (Nat.le_refl _)⟩
  rw [Nat.zero_add] at hown2
  exact hown2

def fewI (n : Nat) (q : List Sky.Item) : Bool := decide (n ≤ 22) && q.all (fun x => decide (x.n.size ≤ 30))
set_option maxRecDepth 100000 in
set_option maxHeartbeats 1000000 in
theorem fewItems_any (A : Option Addr) (n cap : Nat) (q : List Sky.Item) (w : World) (hr : Rd w 4 encM A n q) :
    Calls Try.prog 18 #[.slice A n cap] w fun e w' => e = .returned (.bool (fewI n q)) ∧ w = w' := by
  have HL := Lib.hid hr.len
  have HR := Lib.hid hr; clear hr
  by_cases h22 : n ≤ 22
  · go_enter Try.func18, Try.ntmps18
    go_wp2
    go_loopw [3] (fun i wr => ∃ k : Nat, k ≤ n ∧ i = .int .i64 (k : Int) ∧ Hid (∀ j x, j < k → q[j]? = some x → x.n.size ≤ 30) ∧ wr = w) (fun i _ => n - (intOf i).toNat)
    case atStart => exact ⟨0, by omega, rfl, Lib.hid (fun j x hj => absurd hj (by omega)), rfl⟩
    case round =>
      obtain ⟨k, hk, rfl, HF, rfl⟩ := hrel
      by_cases hlt : k < n
      · obtain ⟨b, o, x, rfl, hb, hx, hc⟩ := HR.out.at_ hlt
        have g0 := hc 0 _ rfl
        simp only [Nat.add_zero] at g0
        have HX := Lib.hid hx
        clear hx hc
        by_cases h30 : 30 < x.n.size
        · have HV := Lib.hid (show fewI n q = false by
            unfold fewI
            rw [show (q.all fun x => decide (x.n.size ≤ 30)) = false from List.all_eq_false.2 ⟨x, List.mem_of_getElem? HX.out, by simp; omega⟩]
            simp)
          go_wp2
          go_ret
          exact ⟨by rw [HV.out]; rfl, rfl⟩
        · have h30' : x.n.size ≤ 30 := by omega
          go_wp2
          go_roundw
          case rel => exact ⟨k + 1, by omega, by go_num, Lib.hid (fun j y hj hy => by
            rcases Nat.lt_or_ge j k with h | h
            · exact HF.out j y h hy
            · obtain rfl : j = k := by omega
              have hxy := HX.out
              rw [hy] at hxy
              injection hxy with hxy
              rw [hxy]; exact h30'), trivial⟩
          case measure => simp [intOf]; omega
      · have HV := Lib.hid (show fewI n q = true by
          unfold fewI
          rw [decide_eq_true h22, Bool.true_and, List.all_eq_true]
          intro x hx
          obtain ⟨i, hi, rfl⟩ := List.getElem_of_mem hx
          have h := HL.out
          exact decide_eq_true (HF.out i _ (by omega) (List.getElem?_eq_getElem hi)))
        go_wp2
        go_ret
        exact ⟨by rw [HV.out]; rfl, rfl⟩
  · have HV := Lib.hid (show fewI n q = false by unfold fewI; rw [decide_eq_false h22]; rfl)
    go_enter Try.func18, Try.ntmps18
    go_wp2
    go_ret
    exact ⟨by rw [HV.out]; rfl, rfl⟩
end Go.Proofs.Yteabmmibmopnkaa

namespace Go.Proofs.Yteabmmibmopnkaa
open Go.RowKit Go.Sky

theorem bIsTick_is (n : Int) (c : Bool) (w : World) (h : tick n = c) : Calls Try.prog 92 #[.int .i64 n] w fun e w' => e = .returned (.bool c) ∧ w = w' := h ▸ bIsTick_any n w

set_option maxRecDepth 100000 in
set_option maxHeartbeats 4000000 in
theorem refItem_any (x : Sky.Item) (A : Option Addr) (n cap : Nat) (q : List Sky.Item) (w : World) (hn : n ≤ 1000000) (hx : x.n.size ≤ 1000) (hr : Rd w 4 encM A n q) :
    Calls Try.prog 66 #[.slice A n cap, .agg #[.string x.n, .int .i64 x.p, .int .i64 x.z, .int .i64 x.t]] w fun e w' => e = .returned (.int .i64 (itemE q x)) ∧ New w w' := by
  have HL := Lib.hid hr.len
  have HR := Lib.hid hr; clear hr
  have HX := Lib.hid hx; clear hx
  have b1 := Bx.mk w 44 (encM x).toArray
  have hN := (New.refl w).alloc (.cells (encM x).toArray 44)
  have c0 : World.cell? _ ⟨w.heap.size, 0, none⟩ = some (.string x.n) := b1.cell 0
  have lb := b1.lt
  obtain ⟨qn, hqn⟩ : ∃ c, nameI x = c := ⟨_, rfl⟩
  have HQN := Lib.hid hqn
  have HNM := Lib.hid (show nameI x = nameS x.n.data.toList from rfl)
  clear hqn
  go_enter Try.func66, Try.ntmps66
  go_wp2_with fail
  refine (bIsName_any _ _ HX.out).mono ?_
  rintro e w' ⟨rfl, rfl⟩
  rw [← HNM.out, HQN.out]
  cases qn
  · have HV := Lib.hid (itemE_name (pre := q) HQN.out)
    go_wp2
    go_ret
    exact ⟨by rw [HV.out]; rfl, hN⟩
  go_wp2_with fail
  obtain ⟨W0, hW0⟩ : ∃ W0, w.alloc (.cells (encM x).toArray 44) = W0 := ⟨_, rfl⟩
  have hW0' : w.alloc (.cells #[.string x.n, .int .i64 x.p, .int .i64 x.z, .int .i64 x.t] 44) = W0 := hW0
  rw [hW0] at b1 hN
  rw [hW0'] 
  clear hW0 hW0' c0 lb
  go_loopw [5] (fun i wr => ∃ k : Nat, k ≤ n ∧ i = .int .i64 (k : Int) ∧ Hid (∀ j y, j < k → q[j]? = some y → sameN x y = false) ∧ New W0 wr) (fun i _ => n - (intOf i).toNat)
  case atStart => exact ⟨0, by omega, rfl, Lib.hid (fun j x hj => absurd hj (by omega)), New.refl _⟩
  case round =>
    obtain ⟨k, hk, rfl, HF, nk⟩ := hrel
    have b2 := b1.keep nk
    have c0 : wr.cell? ⟨w.heap.size, 0, none⟩ = some (.string x.n) := b2.cell 0
    have c1 : wr.cell? ⟨w.heap.size, 1, none⟩ = some (.int .i64 x.p) := b2.cell 1
    have c2 : wr.cell? ⟨w.heap.size, 2, none⟩ = some (.int .i64 x.z) := b2.cell 2
    have c3 : wr.cell? ⟨w.heap.size, 3, none⟩ = some (.int .i64 x.t) := b2.cell 3
    have lb := b2.lt
    by_cases hlt : k < n
    · obtain ⟨b, o, y, rfl, hb, hy, hc⟩ := (HR.out.keep (hN.trans nk)).at_ hlt
      have g0 := hc 0 _ rfl
      simp only [Nat.add_zero] at g0
      have HY := Lib.hid hy
      have i0 : (0 : Int) ≤ (k : Int) := by omega
      have i1 : (k : Int) < (n : Int) := by omega
      clear hy hc
      obtain ⟨s, hs⟩ : ∃ s, (y.n.toList == x.n.toList) = s := ⟨_, rfl⟩
      have HS := Lib.hid (show sameN x y = s from hs)
      cases s
      · go_wp2
        (refine wp_region_new (by kernel_rfl) (by kernel_rfl) ?_; (repeat (go_big_quiet_step ((fail)))); refine wpQuiet_nil ?_)
        intro w2 n2
        go_wp2
        go_roundw
        case rel => exact ⟨k + 1, by omega, by go_num, Lib.hid (fun j z hj hz => by
          rcases Nat.lt_or_ge j k with h | h
          · exact HF.out j z h hz
          · obtain rfl : j = k := by omega
            have hxy := HY.out
            rw [hz] at hxy
            injection hxy with hxy
            rw [hxy]; exact HS.out), nk.trans n2⟩
        case measure => simp [intOf]; omega
      · have HV := Lib.hid (itemE_same (pre := q) HQN.out (List.any_eq_true.2 ⟨y, List.mem_of_getElem? HY.out, HS.out⟩))
        go_wp2
        (refine wp_region_new (by kernel_rfl) (by kernel_rfl) ?_; (repeat (go_big_quiet_step ((fail)))); refine wpQuiet_nil ?_)
        intro w2 n2
        go_wp2
        go_ret
        exact ⟨by rw [HV.out]; rfl, (hN.trans nk).trans n2⟩
    · obtain rfl : k = n := by omega
      have HA := Lib.hid (show q.any (sameN x) = false by
        rw [List.any_eq_false]
        intro y hy
        obtain ⟨i, hi, rfl⟩ := List.getElem_of_mem hy
        have h := HL.out
        rw [HF.out i _ (by omega) (List.getElem?_eq_getElem hi)]
        decide)
      obtain ⟨c, HC, hcase⟩ : ∃ c, Hid (rangeI x = c) ∧ ((c = false ∧ inR x.p 0 9 = false) ∨ (c = false ∧ inR x.p 0 9 = true ∧ inR x.z 1 10000 = false) ∨ (inR x.p 0 9 = true ∧ inR x.z 1 10000 = true ∧ tick x.t = c)) := by
        refine ⟨_, rfl, ?_⟩
        unfold rangeI
        cases inR x.p 0 9 <;> cases inR x.z 1 10000 <;> cases tick x.t <;> simp
      rcases hcase with ⟨rfl, h1⟩ | ⟨rfl, h1, h2⟩ | ⟨h1, h2, h3⟩
      · have HV := Lib.hid (itemE_range (pre := q) HQN.out HA.out HC.out)
        go_wp2_with (go_at_call 14; refine (bWithin_is _ _ _ _ _ (by assumption)).mono ?_; rintro e w' ⟨rfl, rfl⟩)
        go_ret
        exact ⟨by rw [HV.out]; rfl, hN.trans nk⟩
      · have HV := Lib.hid (itemE_range (pre := q) HQN.out HA.out HC.out)
        go_wp2_with (first | (go_at_call 14; refine (bWithin_is _ _ _ true _ (by assumption)).mono ?_; rintro e w' ⟨rfl, rfl⟩) | (go_at_call 14; refine (bWithin_is _ _ _ false _ (by assumption)).mono ?_; rintro e w' ⟨rfl, rfl⟩))
        go_ret
        exact ⟨by rw [HV.out]; rfl, hN.trans nk⟩
      · cases c
        · have HV := Lib.hid (itemE_range (pre := q) HQN.out HA.out HC.out)
          go_wp2_with (first | (go_at_call 14; refine (bWithin_is _ _ _ true _ (by assumption)).mono ?_; rintro e w' ⟨rfl, rfl⟩) | (go_at_call 92; refine (bIsTick_is _ _ _ h3).mono ?_; rintro e w' ⟨rfl, rfl⟩))
          go_ret
          exact ⟨by rw [HV.out]; rfl, hN.trans nk⟩
        · have HV := Lib.hid (itemE_ok (pre := q) HQN.out HA.out HC.out)
          go_wp2_with (first | (go_at_call 14; refine (bWithin_is _ _ _ true _ (by assumption)).mono ?_; rintro e w' ⟨rfl, rfl⟩) | (go_at_call 92; refine (bIsTick_is _ _ _ h3).mono ?_; rintro e w' ⟨rfl, rfl⟩))
          go_ret
          exact ⟨by rw [HV.out]; rfl, hN.trans nk⟩

theorem refItem_is (x : Sky.Item) (E : Int) (A : Option Addr) (n cap : Nat) (q : List Sky.Item) (w : World) (hn : n ≤ 1000000) (hx : x.n.size ≤ 1000) (hr : Rd w 4 encM A n q) (h : itemE q x = E) :
    Calls Try.prog 66 #[.slice A n cap, .agg #[.string x.n, .int .i64 x.p, .int .i64 x.z, .int .i64 x.t]] w fun e w' => e = .returned (.int .i64 E) ∧ New w w' := h ▸ refItem_any x A n cap q w hn hx hr

set_option maxRecDepth 100000 in
set_option maxHeartbeats 4000000 in
theorem refQ_any (A : Option Addr) (n cap : Nat) (q : List Sky.Item) (w : World) (hn : n ≤ 1000000) (hcap : n ≤ cap) (hx : ∀ x ∈ q, x.n.size ≤ 1000) (hr : Rd w 4 encM A n q) :
    Calls Try.prog 65 #[.slice A n cap] w fun e w' => e = .returned (.tuple #[.int .i64 (queueS q).1, .int .i64 (queueS q).2]) ∧ New w w' := by
  have HL := Lib.hid hr.len
  have HR := Lib.hid hr; clear hr
  have HX := Lib.hid hx; clear hx
  by_cases h20 : 20 < n
  · have HV := Lib.hid (show queueS q = (0, 8) by unfold queueS; rw [if_pos (by rw [HL.out]; exact h20)])
    go_enter Try.func65, Try.ntmps65
    go_wp2_with fail
    go_ret2
    exact ⟨by rw [HV.out]; rfl, New.refl _⟩
  have HV := Lib.hid (show queueS q = queueFrom (q.take 0) (q.drop 0) ((0 : Nat) : Int) by unfold queueS; rw [if_neg (by rw [HL.out]; exact h20)]; rfl)
  go_enter Try.func65, Try.ntmps65
  go_wp2_with fail
  go_loopw [4, 5] (fun i _ wr => ∃ k : Nat, k ≤ n ∧ i = .int .i64 (k : Int) ∧ Hid (queueS q = queueFrom (q.take k) (q.drop k) (k : Int)) ∧ New w wr) (fun i _ _ => n - (intOf i).toNat)
  case atStart => exact ⟨0, by omega, rfl, HV, New.refl _⟩
  case round =>
    clear HV
    obtain ⟨k, hk, rfl, HF, hN⟩ := hrel
    by_cases hlt : k < n
    · obtain ⟨b, o, x, rfl, hb, hx, hc⟩ := (HR.out.keep hN).at_ hlt
      have g0 := hc 0 _ rfl
      have g1 := hc 1 _ rfl
      have g2 := hc 2 _ rfl
      have g3 := hc 3 _ rfl
      simp only [Nat.add_zero] at g0
      have HST := Lib.hid (HF.out.trans (queueFrom_step hx))
      have HXS := Lib.hid (HX.out x (List.mem_of_getElem? hx))
      have HRT := Lib.hid ((HR.out.keep hN).take (m := k) (by omega))
      clear hx hc HF
      have i0 : (0 : Int) ≤ (k : Int) := by omega
      have i1 : (k : Int) ≤ (cap : Int) := by omega
      have i2 : (k : Int) < (n : Int) := by omega
      obtain ⟨E, hE⟩ : ∃ E, itemE (q.take k) x = E := ⟨_, rfl⟩
      have HE := Lib.hid hE
      have hz : (E = 0 ∧ (E != 0) = false) ∨ (E ≠ 0 ∧ (E != 0) = true) := by
        by_cases h : E = 0
        · exact .inl ⟨h, by simpa using h⟩
        · exact .inr ⟨h, by simpa using h⟩
      clear hE
      rcases hz with ⟨hz0, b2⟩ | ⟨hz0, b2⟩
      all_goals
        have HZ := Lib.hid hz0
        clear hz0
        go_wp2
        (refine wp_region_new (by kernel_rfl) (by kernel_rfl) ?_; (repeat (go_big_quiet_step (((go_at_call 66; exact quiet_new (refItem_is x E _ k cap (q.take k) _ (by omega) HXS.out (by exact HRT.out.keep (plus_new _ _)) HE.out)))))); refine wpQuiet_nil ?_)
        intro w2 n2
        go_wp2
      · go_roundw
        case rel => exact ⟨k + 1, by omega, by go_num, by rw [HST.out, HE.out, if_pos HZ.out]; rfl, hN.trans n2⟩
        case measure => simp [intOf]; omega
      · go_ret2
        exact ⟨by rw [HST.out, HE.out, if_neg HZ.out]; rfl, hN.trans n2⟩
    · obtain rfl : k = n := by omega
      have HV := Lib.hid (show queueS q = (0, 0) by
        rw [HF.out, List.drop_of_length_le (by rw [HL.out]; exact Nat.le_refl _)]; rfl)
      go_wp2_with fail
      go_ret2
      exact ⟨by rw [HV.out]; rfl, hN⟩
end Go.Proofs.Yteabmmibmopnkaa
