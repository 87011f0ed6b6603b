/- Contract: the reference's check. -/
import Derived.BigQuiet
import Derived.Deep.AppendLies
import Derived.Deep.Draws
import Derived.Deep.Quiet
import Derived.Deep.QuietTactic
import Derived.Lib.Hide
import Derived.OrdersIn
import Derived.OwnWalkIn
import Derived.RangeFuncCalls
import Derived.StillTail
import Derived.TacticsIn
import Derived.Test.YtkahjpbnlclhhaaDoorProg
import Derived.WalkKit
import Derived.WalkLawsBesides
import Derived.WalkSpells
import Derived.Test.YtkahjpbnlclhhaaDoorC17A
import Derived.Test.YtkahjpbnlclhhaaDoorC17I
import Derived.Test.YtkahjpbnlclhhaaDoorC17M

namespace Go.Proofs.YtkahjpbnlclhhaaDoor
open Go.RowKit Go.Sky

def encQ (b : Bool) : List Value := [.int .i64 (b.toNat : Int)]
theorem encQ_len (b : Bool) : (encQ b).length = 1 := rfl
theorem encQ_one (b : Bool) : ∀ u ∈ encQ b, u.oneCell' = true := by intro u hu; simp [encQ] at hu; subst hu; rfl
theorem bitAt0 : ∀ n : Nat, n < 256 → wrap64 (bits .and .u8 (n : Int) 1) = ((n.testBit 0).toNat : Int) := by decide +kernel
theorem bitAt1 : ∀ n : Nat, n < 256 → wrap64 (bits .and .u8 ((n : Int) / 2) 1) = ((n.testBit 1).toNat : Int) := by decide +kernel
theorem bitAt2 : ∀ n : Nat, n < 256 → wrap64 (bits .and .u8 ((n : Int) / 4) 1) = ((n.testBit 2).toNat : Int) := by decide +kernel
theorem bitAt3 : ∀ n : Nat, n < 256 → wrap64 (bits .and .u8 ((n : Int) / 8) 1) = ((n.testBit 3).toNat : Int) := by decide +kernel
theorem bitAt4 : ∀ n : Nat, n < 256 → wrap64 (bits .and .u8 ((n : Int) / 16) 1) = ((n.testBit 4).toNat : Int) := by decide +kernel
theorem bitAt5 : ∀ n : Nat, n < 256 → wrap64 (bits .and .u8 ((n : Int) / 32) 1) = ((n.testBit 5).toNat : Int) := by decide +kernel
theorem bitAt6 : ∀ n : Nat, n < 256 → wrap64 (bits .and .u8 ((n : Int) / 64) 1) = ((n.testBit 6).toNat : Int) := by decide +kernel
theorem bitAt7 : ∀ n : Nat, n < 256 → wrap64 (bits .and .u8 ((n : Int) / 128) 1) = ((n.testBit 7).toNat : Int) := by decide +kernel
theorem msg_step {l : List UInt8} {i : Nat} {b : UInt8} (h : l[i]? = some b) : msgBits (l.take (i + 1)) = msgBits (l.take i) ++ (byteBits b).take 8 := by
  rw [take_snoc l i b h]
  simp [msgBits, byteBits]
theorem flip_get {xs : List Bool} {i : Nat} {b : Bool} (h : xs[i]? = some b) : flipAt xs i = xs.set i (!b) := by
  obtain ⟨hi, rfl⟩ := List.getElem?_eq_some_iff.1 h
  unfold flipAt
  rw [List.modify_eq_set]
  simp [hi]
theorem flipAt_len (xs : List Bool) (i : Nat) : (flipAt xs i).length = xs.length := by simp [flipAt]
theorem flipN_len (xs : List Bool) : ∀ k, (flipN xs k).length = xs.length
  | 0 => rfl
  | k + 1 => by rw [flipN, flipAt_len, flipN_len xs k]
theorem poly_len (xs : List Bool) (i : Nat) : ∀ k, (poly xs i k).length = xs.length
  | 0 => rfl
  | k + 1 => by
    rw [poly]
    split
    · rw [flipAt_len, poly_len xs i k]
    · exact poly_len xs i k
theorem redStep_len (xs : List Bool) (i : Nat) : (redStep xs i).length = xs.length := by
  unfold redStep
  split
  · exact poly_len xs i 17
  · rfl
theorem red_len (xs : List Bool) : ∀ k, (red xs k).length = xs.length
  | 0 => rfl
  | k + 1 => by rw [red, redStep_len, red_len xs k]
theorem not_sub (b : Bool) : ((!b).toNat : Int) = 1 - (b.toNat : Int) := by cases b <;> rfl
theorem own_flip {w : World} {base n c g : Nat} {xs : List Bool} (h : Sky.Own w base 3 1 encQ (some ⟨g, 0, none⟩) n c xs) {i : Nat} {b : Bool} (hx : xs[i]? = some b) (hi : i < n) :
    Sky.Own (w.setCell ⟨g, i, none⟩ (.int .i64 (1 - (b.toNat : Int)))) base 3 1 encQ (some ⟨g, 0, none⟩) n c (flipAt xs i) := by
  rw [flip_get hx]
  exact h.set1 i (!b) _ hi (by rw [← not_sub]; rfl)
theorem numF_snoc (l : List Bool) (b : Bool) (n : Nat) : numF n (l ++ [b]) = 2 * numF n l + b.toNat := by simp [numF]
theorem numF_lt' (l : List Bool) (h : l.length ≤ 16) : numF 0 l < 65536 := by
  have h1 := numF_lt l 0 0 (by decide)
  have h2 : 2 ^ (0 + l.length) ≤ 2 ^ 16 := Nat.pow_le_pow_right (by decide) (by omega)
  have h3 : (2 : Nat) ^ 16 = 65536 := by decide
  omega
theorem new_set {w W : World} {base n c g : Nat} {xs : List Bool} (h : Sky.Own W base 3 1 encQ (some ⟨g, 0, none⟩) n c xs) (hn : New w W) (hb : w.heap.size ≤ base) (i : Nat) (u : Value) : New w (W.setCell ⟨g, i, none⟩ u) := by
  refine hn.setCell ?_ u
  rcases h.form with ⟨h, _⟩ | ⟨g', h, hg, _⟩
  · cases h
  · injection h with h
    injection h with h
    show w.heap.size ≤ g
    omega

set_option maxRecDepth 100000 in
set_option maxHeartbeats 8000000 in
theorem refCrc_any (s : ByteArray) (w : World) (hs : s.size ≤ 4000) :
    Calls Tryd.prog 72 #[.string s] w fun e w' => e = .returned (.int .i64 (refCrc s.data.toList : Int)) ∧ New w w' := by
  obtain ⟨i0, hi, hz0, hz1, hz2⟩ := info_parts infoInt
  have HL := Lib.hid (show s.data.toList.length = s.size by simp)
  have HO0 := Lib.hid (Own.nil w w.heap.size 3 1 encQ_len)
  go_enter Tryd.func72, Tryd.ntmps72
  go_wp2_with fail
  go_loopw [3, 4, 5] (fun v3 v4 _ wr => ∃ (i n c : Nat) (A : Option Addr), i ≤ s.size ∧ v4 = .int .i64 (i : Int) ∧ v3 = .slice A n c ∧ n = 8 * i ∧ Hid (Sky.Own wr w.heap.size 3 1 encQ A n c (msgBits (s.data.toList.take i))) ∧ New w wr) (fun _ v4 _ _ => s.size - (intOf v4).toNat)
  case atStart => exact ⟨0, 0, 0, none, by omega, rfl, rfl, rfl, HO0, New.refl _⟩
  case round =>
    clear HO0
    obtain ⟨i, n, c, A, hi2, rfl, rfl, hn, HO, nw⟩ := hrel
    by_cases hlt : i < s.size
    · obtain ⟨b, hb⟩ : ∃ b, s[i] = b := ⟨_, rfl⟩
      have hx : s.data.toList[i]? = some b := by
        rw [List.getElem?_eq_getElem (by rw [HL.out]; exact hlt), ← hb]
        rfl
      have HX := Lib.hid hx
      have h256 := b.toNat_lt
      have j0 : (0 : Int) ≤ (i : Int) := by omega
      have j1 : (i : Int) < (s.size : Int) := by omega
      clear hx
      go_wp2_with fail
      go_loopw [3, 5] (fun v3 v5 wr => ∃ (j n c : Nat) (A : Option Addr), j ≤ 8 ∧ v5 = .int .i64 (7 - (j : Int)) ∧ v3 = .slice A n c ∧ n = 8 * i + j ∧ Hid (Sky.Own wr w.heap.size 3 1 encQ A n c (msgBits (s.data.toList.take i) ++ (byteBits b).take j)) ∧ New w wr) (fun _ v5 _ => ((intOf v5) + 1).toNat)
      case atStart => exact ⟨0, n, c, A, by omega, rfl, rfl, by omega, Lib.hid (by rw [List.take_zero, List.append_nil]; exact HO.out), nw⟩
      case round =>
        clear HO nw hn
        obtain ⟨j, n, c, A, hj, rfl, rfl, hn, HO, nw⟩ := hrel
        have HNN := Lib.hid hn
        have hnb : n ≤ 40000 := by omega
        clear hn
        by_cases hjl : j < 8
        · have k0 : (0 : Int) ≤ 7 - (j : Int) := by omega
          have k1 : decide ((0 : Int) ≤ 7 - (j : Int)) = true := decide_eq_true k0
          rcases (show j = 0 ∨ j = 1 ∨ j = 2 ∨ j = 3 ∨ j = 4 ∨ j = 5 ∨ j = 6 ∨ j = 7 by omega) with rfl | rfl | rfl | rfl | rfl | rfl | rfl | rfl
          · have HB := Lib.hid (bitAt7 b.toNat h256)
            have HOX := Lib.hid (HO.out.alloc (.cells #[.int .i64 ((b.toNat.testBit 7).toNat : Int)] 3))
            have HTK := Lib.hid (show msgBits (s.data.toList.take i) ++ (byteBits b).take 0 ++ [b.toNat.testBit 7] = msgBits (s.data.toList.take i) ++ (byteBits b).take 1 by rw [List.append_assoc]; rfl)
            go_wp2_with (at_builtin; rw [HB.out]; refine wpList_pour _ rfl _ _ 25 rfl 3 i0 _ 1 8 Tryd.underlying25 hi hz0 hz1 hz2 rfl (by omega) w.heap.size encQ _ _ _ _ rfl HOX.out _ 1 1 [b.toNat.testBit 7] rfl (by exact rd_bx (Bx.mk_at _ _ _ _ rfl) encQ_len [b.toNat.testBit 7] rfl 1 rfl) encQ_one (by simp [maxLen]; omega) (by omega) (nw.alloc _).size ?_; intro A3 cap3 w3 hown3 hgr3 hN3)
            have n3 := hN3 w (nw.alloc _) (Nat.le_refl _)
            rw [HTK.out] at hown3
            have HO3 := Lib.hid hown3
            clear hown3 hgr3 hN3 HOX
            go_wp2_with fail
            go_roundw
            case rel => exact ⟨1, n + 1, cap3, A3, by omega, by go_num, rfl, by have := HNN.out; omega, HO3, n3⟩
            case measure => simp [intOf] <;> omega
          · have HB := Lib.hid (bitAt6 b.toNat h256)
            have HOX := Lib.hid (HO.out.alloc (.cells #[.int .i64 ((b.toNat.testBit 6).toNat : Int)] 3))
            have HTK := Lib.hid (show msgBits (s.data.toList.take i) ++ (byteBits b).take 1 ++ [b.toNat.testBit 6] = msgBits (s.data.toList.take i) ++ (byteBits b).take 2 by rw [List.append_assoc]; rfl)
            go_wp2_with (at_builtin; rw [HB.out]; refine wpList_pour _ rfl _ _ 25 rfl 3 i0 _ 1 8 Tryd.underlying25 hi hz0 hz1 hz2 rfl (by omega) w.heap.size encQ _ _ _ _ rfl HOX.out _ 1 1 [b.toNat.testBit 6] rfl (by exact rd_bx (Bx.mk_at _ _ _ _ rfl) encQ_len [b.toNat.testBit 6] rfl 1 rfl) encQ_one (by simp [maxLen]; omega) (by omega) (nw.alloc _).size ?_; intro A3 cap3 w3 hown3 hgr3 hN3)
            have n3 := hN3 w (nw.alloc _) (Nat.le_refl _)
            rw [HTK.out] at hown3
            have HO3 := Lib.hid hown3
            clear hown3 hgr3 hN3 HOX
            go_wp2_with fail
            go_roundw
            case rel => exact ⟨2, n + 1, cap3, A3, by omega, by go_num, rfl, by have := HNN.out; omega, HO3, n3⟩
            case measure => simp [intOf] <;> omega
          · have HB := Lib.hid (bitAt5 b.toNat h256)
            have HOX := Lib.hid (HO.out.alloc (.cells #[.int .i64 ((b.toNat.testBit 5).toNat : Int)] 3))
            have HTK := Lib.hid (show msgBits (s.data.toList.take i) ++ (byteBits b).take 2 ++ [b.toNat.testBit 5] = msgBits (s.data.toList.take i) ++ (byteBits b).take 3 by rw [List.append_assoc]; rfl)
            go_wp2_with (at_builtin; rw [HB.out]; refine wpList_pour _ rfl _ _ 25 rfl 3 i0 _ 1 8 Tryd.underlying25 hi hz0 hz1 hz2 rfl (by omega) w.heap.size encQ _ _ _ _ rfl HOX.out _ 1 1 [b.toNat.testBit 5] rfl (by exact rd_bx (Bx.mk_at _ _ _ _ rfl) encQ_len [b.toNat.testBit 5] rfl 1 rfl) encQ_one (by simp [maxLen]; omega) (by omega) (nw.alloc _).size ?_; intro A3 cap3 w3 hown3 hgr3 hN3)
            have n3 := hN3 w (nw.alloc _) (Nat.le_refl _)
            rw [HTK.out] at hown3
            have HO3 := Lib.hid hown3
            clear hown3 hgr3 hN3 HOX
            go_wp2_with fail
            go_roundw
            case rel => exact ⟨3, n + 1, cap3, A3, by omega, by go_num, rfl, by have := HNN.out; omega, HO3, n3⟩
            case measure => simp [intOf] <;> omega
          · have HB := Lib.hid (bitAt4 b.toNat h256)
            have HOX := Lib.hid (HO.out.alloc (.cells #[.int .i64 ((b.toNat.testBit 4).toNat : Int)] 3))
            have HTK := Lib.hid (show msgBits (s.data.toList.take i) ++ (byteBits b).take 3 ++ [b.toNat.testBit 4] = msgBits (s.data.toList.take i) ++ (byteBits b).take 4 by rw [List.append_assoc]; rfl)
            go_wp2_with (at_builtin; rw [HB.out]; refine wpList_pour _ rfl _ _ 25 rfl 3 i0 _ 1 8 Tryd.underlying25 hi hz0 hz1 hz2 rfl (by omega) w.heap.size encQ _ _ _ _ rfl HOX.out _ 1 1 [b.toNat.testBit 4] rfl (by exact rd_bx (Bx.mk_at _ _ _ _ rfl) encQ_len [b.toNat.testBit 4] rfl 1 rfl) encQ_one (by simp [maxLen]; omega) (by omega) (nw.alloc _).size ?_; intro A3 cap3 w3 hown3 hgr3 hN3)
            have n3 := hN3 w (nw.alloc _) (Nat.le_refl _)
            rw [HTK.out] at hown3
            have HO3 := Lib.hid hown3
            clear hown3 hgr3 hN3 HOX
            go_wp2_with fail
            go_roundw
            case rel => exact ⟨4, n + 1, cap3, A3, by omega, by go_num, rfl, by have := HNN.out; omega, HO3, n3⟩
            case measure => simp [intOf] <;> omega
          · have HB := Lib.hid (bitAt3 b.toNat h256)
            have HOX := Lib.hid (HO.out.alloc (.cells #[.int .i64 ((b.toNat.testBit 3).toNat : Int)] 3))
            have HTK := Lib.hid (show msgBits (s.data.toList.take i) ++ (byteBits b).take 4 ++ [b.toNat.testBit 3] = msgBits (s.data.toList.take i) ++ (byteBits b).take 5 by rw [List.append_assoc]; rfl)
            go_wp2_with (at_builtin; rw [HB.out]; refine wpList_pour _ rfl _ _ 25 rfl 3 i0 _ 1 8 Tryd.underlying25 hi hz0 hz1 hz2 rfl (by omega) w.heap.size encQ _ _ _ _ rfl HOX.out _ 1 1 [b.toNat.testBit 3] rfl (by exact rd_bx (Bx.mk_at _ _ _ _ rfl) encQ_len [b.toNat.testBit 3] rfl 1 rfl) encQ_one (by simp [maxLen]; omega) (by omega) (nw.alloc _).size ?_; intro A3 cap3 w3 hown3 hgr3 hN3)
            have n3 := hN3 w (nw.alloc _) (Nat.le_refl _)
            rw [HTK.out] at hown3
            have HO3 := Lib.hid hown3
            clear hown3 hgr3 hN3 HOX
            go_wp2_with fail
            go_roundw
            case rel => exact ⟨5, n + 1, cap3, A3, by omega, by go_num, rfl, by have := HNN.out; omega, HO3, n3⟩
            case measure => simp [intOf] <;> omega
          · have HB := Lib.hid (bitAt2 b.toNat h256)
            have HOX := Lib.hid (HO.out.alloc (.cells #[.int .i64 ((b.toNat.testBit 2).toNat : Int)] 3))
            have HTK := Lib.hid (show msgBits (s.data.toList.take i) ++ (byteBits b).take 5 ++ [b.toNat.testBit 2] = msgBits (s.data.toList.take i) ++ (byteBits b).take 6 by rw [List.append_assoc]; rfl)
            go_wp2_with (at_builtin; rw [HB.out]; refine wpList_pour _ rfl _ _ 25 rfl 3 i0 _ 1 8 Tryd.underlying25 hi hz0 hz1 hz2 rfl (by omega) w.heap.size encQ _ _ _ _ rfl HOX.out _ 1 1 [b.toNat.testBit 2] rfl (by exact rd_bx (Bx.mk_at _ _ _ _ rfl) encQ_len [b.toNat.testBit 2] rfl 1 rfl) encQ_one (by simp [maxLen]; omega) (by omega) (nw.alloc _).size ?_; intro A3 cap3 w3 hown3 hgr3 hN3)
            have n3 := hN3 w (nw.alloc _) (Nat.le_refl _)
            rw [HTK.out] at hown3
            have HO3 := Lib.hid hown3
            clear hown3 hgr3 hN3 HOX
            go_wp2_with fail
            go_roundw
            case rel => exact ⟨6, n + 1, cap3, A3, by omega, by go_num, rfl, by have := HNN.out; omega, HO3, n3⟩
            case measure => simp [intOf] <;> omega
          · have HB := Lib.hid (bitAt1 b.toNat h256)
            have HOX := Lib.hid (HO.out.alloc (.cells #[.int .i64 ((b.toNat.testBit 1).toNat : Int)] 3))
            have HTK := Lib.hid (show msgBits (s.data.toList.take i) ++ (byteBits b).take 6 ++ [b.toNat.testBit 1] = msgBits (s.data.toList.take i) ++ (byteBits b).take 7 by rw [List.append_assoc]; rfl)
            go_wp2_with (at_builtin; rw [HB.out]; refine wpList_pour _ rfl _ _ 25 rfl 3 i0 _ 1 8 Tryd.underlying25 hi hz0 hz1 hz2 rfl (by omega) w.heap.size encQ _ _ _ _ rfl HOX.out _ 1 1 [b.toNat.testBit 1] rfl (by exact rd_bx (Bx.mk_at _ _ _ _ rfl) encQ_len [b.toNat.testBit 1] rfl 1 rfl) encQ_one (by simp [maxLen]; omega) (by omega) (nw.alloc _).size ?_; intro A3 cap3 w3 hown3 hgr3 hN3)
            have n3 := hN3 w (nw.alloc _) (Nat.le_refl _)
            rw [HTK.out] at hown3
            have HO3 := Lib.hid hown3
            clear hown3 hgr3 hN3 HOX
            go_wp2_with fail
            go_roundw
            case rel => exact ⟨7, n + 1, cap3, A3, by omega, by go_num, rfl, by have := HNN.out; omega, HO3, n3⟩
            case measure => simp [intOf] <;> omega
          · have HB := Lib.hid (bitAt0 b.toNat h256)
            have HOX := Lib.hid (HO.out.alloc (.cells #[.int .i64 ((b.toNat.testBit 0).toNat : Int)] 3))
            have HTK := Lib.hid (show msgBits (s.data.toList.take i) ++ (byteBits b).take 7 ++ [b.toNat.testBit 0] = msgBits (s.data.toList.take i) ++ (byteBits b).take 8 by rw [List.append_assoc]; rfl)
            go_wp2_with (at_builtin; rw [HB.out]; refine wpList_pour _ rfl _ _ 25 rfl 3 i0 _ 1 8 Tryd.underlying25 hi hz0 hz1 hz2 rfl (by omega) w.heap.size encQ _ _ _ _ rfl HOX.out _ 1 1 [b.toNat.testBit 0] rfl (by exact rd_bx (Bx.mk_at _ _ _ _ rfl) encQ_len [b.toNat.testBit 0] rfl 1 rfl) encQ_one (by simp [maxLen]; omega) (by omega) (nw.alloc _).size ?_; intro A3 cap3 w3 hown3 hgr3 hN3)
            have n3 := hN3 w (nw.alloc _) (Nat.le_refl _)
            rw [HTK.out] at hown3
            have HO3 := Lib.hid hown3
            clear hown3 hgr3 hN3 HOX
            go_wp2_with fail
            go_roundw
            case rel => exact ⟨8, n + 1, cap3, A3, by omega, by go_num, rfl, by have := HNN.out; omega, HO3, n3⟩
            case measure => simp [intOf] <;> omega
        · have hj8 : j = 8 := by omega
          subst hj8
          have HM := Lib.hid (msg_step HX.out)
          have k1 : decide ((0 : Int) ≤ 7 - ((8 : Nat) : Int)) = false := rfl
          go_wp2_with fail
          go_roundw
          case rel => exact ⟨i + 1, n, c, A, by omega, by go_num, rfl, by have := HNN.out; omega, Lib.hid (by rw [HM.out]; exact HO.out), nw⟩
          case measure => simp [intOf]; omega
    · have hil : i = s.size := by omega
      have HO1 := Lib.hid (show Sky.Own wr w.heap.size 3 1 encQ A n c (msgBits s.data.toList ++ List.replicate 0 false) by
        have := HO.out
        rw [List.take_of_length_le (by rw [HL.out]; omega)] at this
        rw [List.replicate_zero, List.append_nil]
        exact this)
      obtain ⟨N, hN⟩ : ∃ N, 8 * s.size = N := ⟨_, rfl⟩
      have hN32 : N ≤ 32000 := by omega
      have HN := Lib.hid hN
      have hnN : n = N := by omega
      clear HO hN
      go_wp2_with fail
      go_loopw [3, 6] (fun v3 v6 wr => ∃ (j c : Nat) (A : Option Addr), j ≤ 16 ∧ v6 = .int .i64 (j : Int) ∧ v3 = .slice A (N + j) c ∧ Hid (Sky.Own wr w.heap.size 3 1 encQ A (N + j) c (msgBits s.data.toList ++ List.replicate j false)) ∧ New w wr) (fun _ v6 _ => 16 - (intOf v6).toNat)
      case atStart => exact ⟨0, c, A, by omega, rfl, by rw [hnN]; rfl, by rw [hnN] at HO1; exact HO1, nw⟩
      case round =>
        clear HO1 nw hlt hil hi2 hn
        obtain ⟨j, c, A, hj, rfl, rfl, HO, nw⟩ := hrel
        by_cases hjl : j < 16
        · have HOX := Lib.hid (HO.out.alloc (.cells #[.int .i64 0] 3))
          have HTK := Lib.hid (show msgBits s.data.toList ++ List.replicate j false ++ [false] = msgBits s.data.toList ++ List.replicate (j + 1) false by rw [List.append_assoc, List.replicate_succ'])
          go_wp2_with (at_builtin; refine wpList_pour _ rfl _ _ 25 rfl 3 i0 _ 1 8 Tryd.underlying25 hi hz0 hz1 hz2 rfl (by omega) w.heap.size encQ _ _ _ _ rfl HOX.out _ 1 1 [false] rfl (by exact rd_bx (Bx.mk_at _ _ _ _ rfl) encQ_len [false] rfl 1 rfl) encQ_one (by simp [maxLen]; omega) (by omega) (nw.alloc _).size ?_; intro A3 cap3 w3 hown3 hgr3 hN3)
          have n3 := hN3 w (nw.alloc _) (Nat.le_refl _)
          rw [HTK.out] at hown3
          have HO3 := Lib.hid hown3
          clear hown3 hgr3 hN3 HOX
          go_wp2_with fail
          go_roundw
          case rel => exact ⟨j + 1, cap3, A3, by omega, by go_num, rfl, HO3, n3⟩
          case measure => simp [intOf]; omega
        · have hj16 : j = 16 := by omega
          subst hj16
          obtain ⟨g, rfl⟩ : ∃ g, A = some ⟨g, 0, none⟩ := by
            rcases HO.out.form with ⟨_, h, _⟩ | ⟨g, h, _⟩
            · omega
            · exact ⟨g, h⟩
          obtain ⟨X, hX⟩ : ∃ X, msgBits s.data.toList ++ List.replicate 16 false = X := ⟨_, rfl⟩
          rw [hX] at HO
          have HXX := Lib.hid hX
          have hXl : X.length = N + 16 := HO.out.len
          have HXL := Lib.hid hXl
          have HO4 := Lib.hid (show Sky.Own wr w.heap.size 3 1 encQ (some ⟨g, 0, none⟩) (N + 16) c (flipN X 0) from HO.out)
          clear HO hX hXl
          go_wp2_with fail
          go_loopw [7] (fun v7 wr => ∃ j : Nat, j ≤ 16 ∧ v7 = .int .i64 (j : Int) ∧ Hid (Sky.Own wr w.heap.size 3 1 encQ (some ⟨g, 0, none⟩) (N + 16) c (flipN X j)) ∧ New w wr) (fun v7 _ => 16 - (intOf v7).toNat)
          case atStart => exact ⟨0, by omega, rfl, HO4, nw⟩
          case round =>
            clear HO4 nw hjl hj
            obtain ⟨j, hj, rfl, HO, nw⟩ := hrel
            by_cases hjl : j < 16
            · obtain ⟨b, hb⟩ : ∃ b, (flipN X j)[j]? = some b := ⟨_, List.getElem?_eq_getElem (by rw [flipN_len, HXL.out]; omega)⟩
              have c0 := HO.out.cell1 j b _ hb rfl
              have f0 := HO.out.free j
              have HO5 := Lib.hid (own_flip HO.out hb (by omega))
              have n5 := new_set HO.out nw (Nat.le_refl _) j (.int .i64 (1 - (b.toNat : Int)))
              have hb1 : (b.toNat : Int) ≤ 1 := by cases b <;> decide
              have hb0 : (0 : Int) ≤ (b.toNat : Int) := by cases b <;> decide
              have j0 : (0 : Int) ≤ (j : Int) := by omega
              have j1 : (j : Int) < (N : Int) + 16 := by omega
              have HN5 := Lib.hid n5
              clear hb n5
              obtain ⟨B, hB⟩ : ∃ B : Int, (b.toNat : Int) = B := ⟨_, rfl⟩
              rw [hB] at c0 HO5 HN5 hb0 hb1
              clear hB
              go_wp2_with fail
              go_roundw
              case rel => exact ⟨j + 1, by omega, by go_num, HO5, HN5.out⟩
              case measure => simp [intOf]; omega
            · have hj16 : j = 16 := by omega
              subst hj16
              obtain ⟨Y, hY⟩ : ∃ Y, flipN X 16 = Y := ⟨_, rfl⟩
              rw [hY] at HO
              have HYY := Lib.hid hY
              have HYL := Lib.hid (show Y.length = N + 16 from HO.out.len)
              have HO4 := Lib.hid (show Sky.Own wr w.heap.size 3 1 encQ (some ⟨g, 0, none⟩) (N + 16) c (red Y 0) from HO.out)
              clear HO hY
              go_wp2_with fail
              go_loopw [8, 9] (fun v8 _ wr => ∃ i : Nat, i ≤ N ∧ v8 = .int .i64 (i : Int) ∧ Hid (Sky.Own wr w.heap.size 3 1 encQ (some ⟨g, 0, none⟩) (N + 16) c (red Y i)) ∧ New w wr) (fun v8 _ _ => N - (intOf v8).toNat)
              case atStart => exact ⟨0, by omega, rfl, HO4, nw⟩
              case round =>
                clear HO4 nw hjl hj
                obtain ⟨i, hi2, rfl, HO, nw⟩ := hrel
                by_cases hlt : i < N
                · obtain ⟨Z, hZ⟩ : ∃ Z, red Y i = Z := ⟨_, rfl⟩
                  have HZ := Lib.hid hZ
                  have HZL := Lib.hid (show Z.length = N + 16 by rw [← hZ, red_len, HYL.out])
                  rw [hZ] at HO
                  obtain ⟨b, hb⟩ : ∃ b, Z[i]? = some b := ⟨_, List.getElem?_eq_getElem (by rw [HZL.out]; omega)⟩
                  have c0 := HO.out.cell1 i b _ hb rfl
                  have HB := Lib.hid hb
                  have i0' : (0 : Int) ≤ (i : Int) := by omega
                  have i1' : (i : Int) < (N : Int) + 16 := by omega
                  have i2' : decide ((i : Int) + 16 < (N : Int) + 16) = true := decide_eq_true (by omega)
                  have i3' : (i : Int) + 16 < (N : Int) + 16 := by omega
                  clear hZ hb
                  cases b
                  · have HR := Lib.hid (show red Y (i + 1) = Z by rw [red, HZ.out, redStep, HB.out]; rfl)
                    have c0' : _ = some (Value.int .i64 0) := c0
                    clear c0
                    go_wp2_with fail
                    go_roundw
                    case rel => exact ⟨i + 1, by omega, by go_num, Lib.hid (by rw [HR.out]; exact HO.out), nw⟩
                    case measure => simp [intOf]; omega
                  · have HR := Lib.hid (show red Y (i + 1) = poly Z i 17 by rw [red, HZ.out, redStep, if_pos HB.out])
                    have c0' : _ = some (Value.int .i64 1) := c0
                    clear c0
                    have HO6 := Lib.hid (show Sky.Own wr w.heap.size 3 1 encQ (some ⟨g, 0, none⟩) (N + 16) c (poly Z i 0) from HO.out)
                    go_wp2_with fail
                    go_loopw [9] (fun v9 wr => ∃ j : Nat, j ≤ 17 ∧ v9 = .int .i64 (j : Int) ∧ Hid (Sky.Own wr w.heap.size 3 1 encQ (some ⟨g, 0, none⟩) (N + 16) c (poly Z i j)) ∧ New w wr) (fun v9 _ => 17 - (intOf v9).toNat)
                    case atStart => exact ⟨0, by omega, rfl, HO6, nw⟩
                    case round =>
                      clear HO6 HO nw c0'
                      obtain ⟨j, hj, rfl, HO, nw⟩ := hrel
                      by_cases hj17 : j < 17
                      · by_cases hp : j = 0 ∨ j = 4 ∨ j = 11 ∨ j = 16
                        · have hin : inPoly j = true := by rcases hp with rfl | rfl | rfl | rfl <;> rfl
                          obtain ⟨b, hb⟩ : ∃ b, (poly Z i j)[i + j]? = some b := ⟨_, List.getElem?_eq_getElem (by rw [poly_len, HZL.out]; omega)⟩
                          have c0 := HO.out.cell1 (i + j) b _ hb rfl
                          have f0 := HO.out.free (i + j)
                          have HO5 := Lib.hid (own_flip HO.out hb (by omega))
                          have n5 := new_set HO.out nw (Nat.le_refl _) (i + j) (.int .i64 (1 - (b.toNat : Int)))
                          have HR2 := Lib.hid (show poly Z i (j + 1) = flipAt (poly Z i j) (i + j) by rw [poly, if_pos hin])
                          have hb1 : (b.toNat : Int) ≤ 1 := by cases b <;> decide
                          have hb0 : (0 : Int) ≤ (b.toNat : Int) := by cases b <;> decide
                          have HN5 := Lib.hid n5
                          obtain ⟨B, hB⟩ : ∃ B : Int, (b.toNat : Int) = B := ⟨_, rfl⟩
                          rw [hB] at c0 HO5 HN5 hb0 hb1
                          clear hB hb n5
                          rcases hp with rfl | rfl | rfl | rfl
                          · rw [Nat.add_zero] at c0 f0 HO5 HN5
                            go_wp2_with fail
                            go_roundw
                            case rel => exact ⟨1, by omega, by go_num, Lib.hid (by rw [HR2.out]; exact HO5.out), HN5.out⟩
                            case measure => first | (simp [intOf]; done) | (simp [intOf]; omega)
                          · go_wp2_with fail
                            go_roundw
                            case rel => exact ⟨5, by omega, by go_num, Lib.hid (by rw [HR2.out]; exact HO5.out), HN5.out⟩
                            case measure => first | (simp [intOf]; done) | (simp [intOf]; omega)
                          · go_wp2_with fail
                            go_roundw
                            case rel => exact ⟨12, by omega, by go_num, Lib.hid (by rw [HR2.out]; exact HO5.out), HN5.out⟩
                            case measure => first | (simp [intOf]; done) | (simp [intOf]; omega)
                          · go_wp2_with fail
                            go_roundw
                            case rel => exact ⟨17, by omega, by go_num, Lib.hid (by rw [HR2.out]; exact HO5.out), HN5.out⟩
                            case measure => first | (simp [intOf]; done) | (simp [intOf]; omega)
                        · have hin : inPoly j = false := by unfold inPoly; simp; omega
                          have HR2 := Lib.hid (show poly Z i (j + 1) = poly Z i j by rw [poly, if_neg (by rw [hin]; simp)])
                          have e0 : ((j : Int) == 0) = false := by simp; omega
                          have e1 : ((j : Int) == 4) = false := by simp; omega
                          have e2 : ((j : Int) == 11) = false := by simp; omega
                          have e3 : ((j : Int) == 16) = false := by simp; omega
                          have e4 : decide ((j : Int) ≤ 16) = true := decide_eq_true (by omega)
                          clear hp
                          go_wp2_with fail
                          go_roundw
                          case rel => exact ⟨j + 1, by omega, by go_num, Lib.hid (by rw [HR2.out]; exact HO.out), nw⟩
                          case measure => simp [intOf]; omega
                      · have hj17' : j = 17 := by omega
                        subst hj17'
                        go_wp2_with fail
                        go_roundw
                        case rel => exact ⟨i + 1, by omega, by go_num, Lib.hid (by rw [HR.out]; exact HO.out), nw⟩
                        case measure => simp [intOf]; omega
                · have hiN : i = N := by omega
                  subst hiN
                  obtain ⟨Z, hZ⟩ : ∃ Z, red Y i = Z := ⟨_, rfl⟩
                  have HZL := Lib.hid (show Z.length = i + 16 by rw [← hZ, red_len, HYL.out])
                  have HV := Lib.hid (show refCrc s.data.toList = numF 0 ((Z.drop i).take 16) by
                    have h8 : 8 * s.data.toList.length = i := by rw [HL.out]; exact HN.out
                    unfold refCrc
                    rw [HXX.out, HYY.out, h8, hZ, List.take_of_length_le (by rw [List.length_drop, HZL.out]; omega)]
                    rfl)
                  rw [hZ] at HO
                  have i2' : decide ((i : Int) + 16 < (i : Int) + 16) = false := decide_eq_false (by omega)
                  have i4' : (0 : Int) ≤ (i : Int) := by omega
                  clear hZ
                  go_wp2_with fail
                  go_loopw [10, 11] (fun v10 v11 wr => ∃ j : Nat, j ≤ 16 ∧ v11 = .int .i64 ((i : Int) + (j : Int)) ∧ v10 = .int .i64 (numF 0 ((Z.drop i).take j) : Int) ∧ Hid (Sky.Own wr w.heap.size 3 1 encQ (some ⟨g, 0, none⟩) (i + 16) c Z) ∧ New w wr) (fun _ v11 _ => i + 16 - (intOf v11).toNat)
                  case atStart => exact ⟨0, by omega, by go_num, rfl, HO, nw⟩
                  case round =>
                    clear HO nw
                    obtain ⟨j, hj, rfl, rfl, HO, nw⟩ := hrel
                    by_cases hjl : j < 16
                    · obtain ⟨b, hb⟩ : ∃ b, Z[i + j]? = some b := ⟨_, List.getElem?_eq_getElem (by rw [HZL.out]; omega)⟩
                      have c0 := HO.out.cell1 (i + j) b _ hb rfl
                      have HST := Lib.hid (show numF 0 ((Z.drop i).take (j + 1)) = 2 * numF 0 ((Z.drop i).take j) + b.toNat by
                        rw [take_snoc (Z.drop i) j b (by rw [List.getElem?_drop]; exact hb), numF_snoc])
                      have hlt' := numF_lt' ((Z.drop i).take j) (by rw [List.length_take]; omega)
                      obtain ⟨v, hv⟩ : ∃ v, numF 0 ((Z.drop i).take j) = v := ⟨_, rfl⟩
                      rw [hv] at HST hlt' ⊢
                      have hb1 : b.toNat ≤ 1 := by cases b <;> decide
                      obtain ⟨B, hB⟩ : ∃ B : Nat, b.toNat = B := ⟨_, rfl⟩
                      rw [hB] at c0 HST hb1
                      have j0 : (0 : Int) ≤ (i : Int) + (j : Int) := by omega
                      have j1 : (i : Int) + (j : Int) < (i : Int) + 16 := by omega
                      have j2 : decide ((i : Int) + (j : Int) < (i : Int) + 16) = true := decide_eq_true j1
                      clear hv hB hb
                      go_wp2_with fail
                      go_roundw
                      case rel => exact ⟨j + 1, by omega, by go_num, by rw [HST.out]; go_num, HO, nw⟩
                      case measure => simp [intOf]; omega
                    · have hj16 : j = 16 := by omega
                      subst hj16
                      have j2 : decide ((i : Int) + ((16 : Nat) : Int) < (i : Int) + 16) = false := decide_eq_false (by omega)
                      have HV2 := Lib.hid (show (numF 0 ((Z.drop i).take 16) : Int) = (refCrc s.data.toList : Int) by rw [HV.out])
                      rw [HV2.out]
                      go_wp2_with fail
                      go_ret
                      exact ⟨rfl, nw⟩
end Go.Proofs.YtkahjpbnlclhhaaDoor
