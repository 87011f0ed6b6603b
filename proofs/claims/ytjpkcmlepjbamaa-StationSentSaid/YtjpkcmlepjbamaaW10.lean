/- Contracts: check, CheckOf. -/
import Derived.Test.YtjpkcmlepjbamaaW1
import Derived.Test.YtjpkcmlepjbamaaSpecC
namespace Go.Proofs.Ytjpkcmlepjbamaa
open Go.RowKit Go.Sky

theorem ofInt_i64 (a : Nat) (ha : a < 9223372036854775808) : (BitVec.ofInt 64 (a : Int)).toNat = a := by
  rw [BitVec.ofInt_natCast, BitVec.toNat_ofNat]; exact Nat.mod_eq_of_lt (by omega)
theorem i64_xor_nat (a b : Nat) (ha : a < 9223372036854775808) (hb : b < 9223372036854775808) : bits .xor .i64 (a : Int) (b : Int) = ((a ^^^ b : Nat) : Int) := by
  have hx : a ^^^ b < 2 ^ 63 := Nat.xor_lt_two_pow (by omega) (by omega)
  show IntKind.i64.wrap ((BitVec.ofInt 64 (a : Int) ^^^ BitVec.ofInt 64 (b : Int)).toNat : Int) = _
  rw [BitVec.toNat_xor, ofInt_i64 a ha, ofInt_i64 b hb, IntKind.wrap_i64]
  omega

theorem crcBit_big {r : Nat} (h : 65535 < r * 2) : crcBit r = (r * 2) ^^^ 69665 := by unfold crcBit; rw [if_pos h]
theorem crcBit_small {r : Nat} (h : ¬ 65535 < r * 2) : crcBit r = r * 2 := by unfold crcBit; rw [if_neg h]
theorem crc_big {m : Nat} (hm : m < 65536) (hb : 65535 < m * 2) : bits .xor .i64 ((m : Int) * 2) 69665 = ((crcBit m : Nat) : Int) := by
  rw [crcBit_big hb]
  have e1 : ((m : Int) * 2) = ((m * 2 : Nat) : Int) := by omega
  have e2 : (69665 : Int) = ((69665 : Nat) : Int) := by omega
  rw [e1, e2]
  exact i64_xor_nat _ _ (by omega) (by omega)
theorem crc_small {m : Nat} (hb : ¬ 65535 < m * 2) : (m : Int) * 2 = ((crcBit m : Nat) : Int) := by
  rw [crcBit_small hb]; omega
theorem crc_in {q : Nat} {c : UInt8} (hq : q < 65536) : bits .xor .i64 (q : Int) ((c.toNat : Int) * 256) = ((q ^^^ (c.toNat * 256) : Nat) : Int) ∧ q ^^^ (c.toNat * 256) < 65536 := by
  have h2 : c.toNat * 256 < 2 ^ 16 := by have := c.toNat_lt; omega
  refine ⟨?_, ?_⟩
  · have e1 : ((c.toNat : Int) * 256) = ((c.toNat * 256 : Nat) : Int) := by omega
    rw [e1]
    exact i64_xor_nat _ _ (by omega) (by omega)
  · have h1 : q < 2 ^ 16 := hq
    exact Nat.xor_lt_two_pow h1 h2

/-- What holds of the remainder and the counter of the inner loop. -/
def CrcRel (r0 : Nat) (r i : Value) : Prop := ∃ (j m : Nat), j ≤ 8 ∧ i = .int .i64 j ∧ r = .int .i64 m ∧ m < 65536 ∧ m = crcBits r0 j

set_option maxRecDepth 100000 in
set_option maxHeartbeats 2000000 in
theorem check_any (s : ByteArray) (w : World) (hs : s.size ≤ 1000000) :
    Calls Try.prog 80 #[.string s] w fun e w' => e = .returned (.int .i64 (crcS s.data.toList)) ∧ New w w' := by
  go_enter Try.func80, Try.ntmps80
  go_wp2_with (refine wpList_bytes _ rfl _ 9 24 5 rfl Try.underlying9 Try.underlying24 Try.underlying5 s rfl ?_; intro g cap w1 hN1 hr hg)
  have HR := Lib.hid hr; clear hr
  go_loop [3, 5, 9, 12, 13, 14, 15, 16, 17, 18, 19, 20, 21, 22, 23, 24, 25, 26] (fun r _ i _ _ _ _ _ _ _ _ _ _ _ _ _ _ _ => ∃ (k : Nat) (q : Nat), k ≤ s.size ∧ i = .int .i64 k ∧ r = .int .i64 q ∧ q < 65536 ∧ Hid (q = foldTo crcByte 65535 s.data.toList k)) (fun _ _ i _ _ _ _ _ _ _ _ _ _ _ _ _ _ _ => s.size - (intOf i).toNat)
  case atStart => exact ⟨0, 65535, by omega, rfl, rfl, by omega, rfl⟩
  case round =>
    obtain ⟨k, q, hk, rfl, rfl, hq, HF⟩ := hrel
    by_cases hlt : k < s.size
    · obtain ⟨b, o, c, hA, hb, hc, hcell⟩ := HR.out.at_ hlt
      injection hA with hA
      injection hA with h1 h2
      subst h1 h2
      have g0 := hcell 0 _ rfl
      simp only [Nat.add_zero, Nat.mul_one, Nat.zero_add] at g0
      have HX := Lib.hid hc
      clear hcell hc
      have hc0 : (0 : Int) ≤ (c.toNat : Int) := by omega
      have hc1 : (c.toNat : Int) ≤ 255 := by have := c.toNat_lt; omega
      have HXR := Lib.hid (crc_in (c := c) hq).1
      have hr0 := (crc_in (c := c) hq).2
      have HST := Lib.hid (show foldTo crcByte 65535 s.data.toList (k + 1) = crcBits (q ^^^ (c.toNat * 256)) 8 by rw [foldTo_step _ _ _ _ _ HX.out, ← HF.out]; rfl)
      go_wp2
      rw [HXR.out]
      generalize q ^^^ (c.toNat * 256) = r0 at *
      go_loop [3, 18] (fun r i => CrcRel r0 r i) (fun _ i => 8 - (intOf i).toNat)
      case atStart => exact ⟨0, r0, by omega, rfl, rfl, hr0, rfl⟩
      case round =>
        obtain ⟨j, m, hj, rfl, rfl, hm, hm0⟩ := hrel
        have HM := Lib.hid hm0; clear hm0
        by_cases hj8 : j < 8
        · obtain ⟨m', hm'⟩ : ∃ m', m' = crcBit m := ⟨_, rfl⟩
          have hmb : m' < 65536 := by rw [hm']; exact crcBit_lt hm
          have HM1 := Lib.hid (show m' = crcBits r0 (j + 1) by rw [hm', HM.out]; rfl)
          by_cases hbig : 65535 < m * 2
          · have HXM := Lib.hid (show bits .xor .i64 ((m : Int) * 2) 69665 = (m' : Int) by rw [hm']; exact crc_big hm hbig)
            have hbig' : (65535 : Int) < (m : Int) * 2 := by omega
            clear hbig hm' HM
            (repeat (first | go_values | go_skip | go_guarded | go_step | go_upon))
            go_round
            case rel => rw [HXM.out]; exact ⟨j + 1, m', by omega, by go_num, rfl, hmb, HM1.out⟩
            case measure => simp [intOf]; omega
          · have HXM := Lib.hid (show (m : Int) * 2 = (m' : Int) by rw [hm']; exact crc_small hbig)
            have hbig' : ¬ (65535 : Int) < (m : Int) * 2 := by omega
            clear hbig hm' HM
            (repeat (first | go_values | go_skip | go_guarded | go_step | go_upon))
            go_round
            case rel => rw [HXM.out]; exact ⟨j + 1, m', by omega, by go_num, rfl, hmb, HM1.out⟩
            case measure => simp [intOf]; omega
        · obtain rfl : j = 8 := by omega
          have HFI := Lib.hid (show m = foldTo crcByte 65535 s.data.toList (k + 1) by rw [HST.out]; exact HM.out)
          clear HM HST HF
          go_wp2
          go_round
          case rel => exact ⟨k + 1, m, by omega, by go_num, rfl, hm, HFI.out⟩
          case measure => simp [intOf]; omega
    · go_wp2
      go_ret
      exact ⟨by rw [HF.out, foldTo_all _ _ _ _ (by simp; omega)]; rfl, hN1⟩
end Go.Proofs.Ytjpkcmlepjbamaa
