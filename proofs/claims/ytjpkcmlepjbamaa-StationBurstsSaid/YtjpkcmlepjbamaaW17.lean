/- The walk of StationBursts. -/
import Derived.Test.YtjpkcmlepjbamaaW16
import Derived.Test.YtjpkcmlepjbamaaSpecE
namespace Go.Proofs.Ytjpkcmlepjbamaa
open Go.RowKit Go.Sky

theorem infoU8 : (Try.prog.info? 5).map (fun i => (i.zero, i.size, i.bytes)) = some (some (.int .u8 0), 1, 1) := by kernel_rfl
theorem encB_len (x : UInt8) : (encB x).length = 1 := rfl
theorem encB_one (x : UInt8) : ∀ u ∈ encB x, u.oneCell' = true := by intro u hu; simp [encB] at hu; subst hu; rfl

theorem i64_and_nat (a b : Nat) (ha : a < 9223372036854775808) (hb : b < 9223372036854775808) : bits .and .i64 (a : Int) (b : Int) = ((a &&& b : Nat) : Int) := by
  have hx : a &&& b ≤ a := Nat.and_le_left
  show IntKind.i64.wrap ((BitVec.ofInt 64 (a : Int) &&& BitVec.ofInt 64 (b : Int)).toNat : Int) = _
  rw [BitVec.toNat_and, ofInt_i64 a ha, ofInt_i64 b hb, IntKind.wrap_i64]
  omega
theorem shift_bit {p k : Nat} (hp : p < 65536) : (bits .and .i64 ((p : Int) / 2 ^ k) 1 == 1) = p.testBit k := by
  have hdiv : (p : Int) / 2 ^ k = ((p / 2 ^ k : Nat) : Int) := by simp
  have hle : p / 2 ^ k ≤ p := Nat.div_le_self _ _
  rw [hdiv, Nat.testBit_eq_decide_div_mod_eq]
  generalize p / 2 ^ k = q at *
  have e := i64_and_nat q 1 (by omega) (by omega)
  rw [Nat.and_one_is_mod] at e
  rw [show ((1 : Nat) : Int) = 1 from rfl] at e
  rw [e]
  rw [Bool.eq_iff_iff]
  simp
  omega
theorem flip_byte {x : Nat} (c : UInt8) : bits .xor .u8 (c.toNat : Int) (128 / 2 ^ (x % 8)) = ((c ^^^ flipBit x).toNat : Int) := by
  have h0 : x % 8 < 8 := Nat.mod_lt _ (by omega)
  have e : (128 : Int) / 2 ^ (x % 8) = ((2 ^ (7 - x % 8) : Nat) : Int) := by
    generalize x % 8 = r at *
    match r, h0 with
    | 0, _ => rfl
    | 1, _ => rfl
    | 2, _ => rfl
    | 3, _ => rfl
    | 4, _ => rfl
    | 5, _ => rfl
    | 6, _ => rfl
    | 7, _ => rfl
  rw [e, u8_xor_nat _ _ (by have := c.toNat_lt; omega) (by have : 2 ^ (7 - x % 8) ≤ 2 ^ 7 := Nat.pow_le_pow_right (by omega) (by omega); omega), UInt8.toNat_xor, flipBit_toNat]

set_option maxRecDepth 100000 in
set_option maxHeartbeats 4000000 in
theorem bursts_any (s : ByteArray) (at_ pat : Int) (w : World) (hs : s.size ≤ maxLen) :
    Calls Try.prog 3 #[.string s, .int .i64 at_, .int .i64 pat] w fun e w' => e = .returned (.bool true) ∧ New w w' := by
  unfold maxLen at hs
  by_cases h3 : s.size < 3
  · have t1 : (s.size : Int) < 3 := by omega
    go_enter Try.func3, Try.ntmps3
    go_wp2_with (go_at_call 17; refine (awake_any _).mono ?_; rintro e w1 ⟨rfl, hN1⟩)
    go_ret
    exact ⟨rfl, hN1⟩
  by_cases h300 : 300 < s.size
  · have t1 : ¬ (s.size : Int) < 3 := by omega
    have t2 : 300 < (s.size : Int) := by omega
    go_enter Try.func3, Try.ntmps3
    go_wp2_with (go_at_call 17; refine (awake_any _).mono ?_; rintro e w1 ⟨rfl, hN1⟩)
    go_ret
    exact ⟨rfl, hN1⟩
  have t1 : ¬ (s.size : Int) < 3 := by omega
  have t2 : ¬ 300 < (s.size : Int) := by omega
  obtain ⟨i0, hi, hz0, hz1, hz2⟩ := info_parts infoU8
  go_enter Try.func3, Try.ntmps3
  go_wp2_with fail
  refine (awake_any _).mono ?_
  rintro e w1 ⟨rfl, hN1⟩
  go_wp2_with fail
  refine (Mod_any _ _ _ (by omega) (by omega)).mono ?_
  rintro e w' ⟨rfl, rfl⟩
  have hp0 : 0 ≤ pat % 65535 := Int.emod_nonneg _ (by omega)
  have hp1 : pat % 65535 < 65535 := Int.emod_lt_of_pos _ (by omega)
  generalize pat % 65535 = p0 at *
  go_wp2_with fail
  refine (Mod_any _ _ _ (by omega) (by omega)).mono ?_
  rintro e w' ⟨rfl, rfl⟩
  have ha0 : 0 ≤ at_ % (8 * (s.size : Int) - 15) := Int.emod_nonneg _ (by omega)
  have ha1 : at_ % (8 * (s.size : Int) - 15) < 8 * (s.size : Int) - 15 := Int.emod_lt_of_pos _ (by omega)
  generalize at_ % (8 * (s.size : Int) - 15) = a0 at *
  obtain ⟨a, rfl⟩ := Int.eq_ofNat_of_zero_le ha0
  obtain ⟨p, hp⟩ : ∃ p : Nat, 1 + p0 = (p : Int) := ⟨(1 + p0).toNat, by omega⟩
  have hpa : 1 ≤ p := by omega
  have hpb : p < 65536 := by omega
  have hab : a + 16 ≤ 8 * s.size := by omega
  go_wp2
  clear hp hp0 hp1 ha0 ha1
  go_loopw [7, 8] (fun v i wr => ∃ (k : Nat) (A : Option Addr) (cap : Nat), k ≤ s.size ∧ i = .int .i64 k ∧ v = .slice A k cap ∧ Own wr w.heap.size 5 1 encB A k cap (s.data.toList.take k) ∧ New w wr) (fun _ i _ => s.size - (intOf i).toNat)
  case atStart => exact ⟨0, none, 0, by omega, rfl, rfl, Own.nil _ _ _ _ encB_len, hN1⟩
  case round =>
    obtain ⟨k, A, cap, hk, rfl, rfl, hown, hN⟩ := hrel
    by_cases hlt : k < s.size
    · have hx : s.data.toList[k]? = some s[k] := by
        rw [List.getElem?_eq_getElem (by simpa using hlt)]; rfl
      have HTS := Lib.hid (take_snoc _ k _ hx)
      clear hx
      go_wp2_with (at_builtin; refine wpList_push _ rfl _ _ 24 rfl 5 i0 _ 1 1 Try.underlying24 hi hz0 hz1 hz2 rfl (by omega) w.heap.size encB A k cap (s.data.toList.take k) rfl (by exact hown.alloc _) _ 1 1 [s[k]] rfl rfl (by omega) (by exact cells_new _ _ _ _ (by simp) _ rfl) encB_one (by unfold maxLen; omega) (by omega) (by have := hN.size; simp; omega) ?_; intro g3 cap3 w3 hown3 hg3 hat3 hb3 hlt3 hN3)
      rw [← HTS.out] at hown3
      have hNw := hN3 w (hN.alloc _) (Nat.le_refl _)
      clear hN3 hg3 hat3
      go_roundw
      case rel => exact ⟨k + 1, _, cap3, by omega, by go_num, rfl, hown3, hNw⟩
      case measure => simp [intOf]; omega
    · obtain rfl : k = s.size := by omega
      have HTA := Lib.hid (show s.data.toList.take s.size = s.data.toList from List.take_of_length_le (by simp))
      rw [HTA.out] at hown
      have HL := Lib.hid (show s.data.toList.length = s.size by simp)
      obtain ⟨l, hl⟩ : ∃ l, s.data.toList = l := ⟨_, rfl⟩
      rw [hl] at hown HL
      have HSL := Lib.hid hl
      clear hl HTA
      obtain ⟨hAn, hA0, _⟩ | ⟨g, rfl, hgb, hglt, hcap, hcap2⟩ := hown.form
      · omega
      clear hlt
      go_wp2
      go_loopw [9, 10] (fun i _ wr => ∃ (k : Nat), k ≤ 16 ∧ i = .int .i64 k ∧ Own wr w.heap.size 5 1 encB (some ⟨g, 0, none⟩) s.size cap (flips p a l k) ∧ New w wr) (fun i _ _ => 16 - (intOf i).toNat)
      case atStart => exact ⟨0, by omega, rfl, hown, hN⟩
      case round =>
        clear hN hown hglt
        obtain ⟨k, hk, rfl, hown, hN⟩ := hrel
        by_cases hlt : k < 16
        · by_cases hb : p.testBit k = true
          · have hbit : (bits .and .i64 ((p : Int) / 2 ^ k) 1 == 1) = true := by rw [shift_bit hpb]; exact hb
            obtain ⟨q, hq⟩ : ∃ q, q = (a + k) / 8 := ⟨_, rfl⟩
            obtain ⟨r, hr⟩ : ∃ r, r = (a + k) % 8 := ⟨_, rfl⟩
            have hqi : ((a : Int) + (k : Int)) / 8 = (q : Int) := by omega
            have hri : ((a : Int) + (k : Int)) % 8 = (r : Int) := by omega
            have hqs : q < s.size := by omega
            have hfl := flips_length p a l k
            obtain ⟨c, hc⟩ : ∃ c, (flips p a l k).getD q 0 = c := ⟨_, rfl⟩
            have hce : (flips p a l k)[q]? = some c := by rw [← hc, List.getD_eq_getElem?_getD, List.getElem?_eq_getElem (by rw [hfl, HL.out]; omega)]; rfl
            have g0 := hown.cell1 q c _ hce rfl
            have HCE := Lib.hid hce
            have f0 := hown.free q
            have HFB := Lib.hid (show bits .xor .u8 (c.toNat : Int) (128 / 2 ^ r) = ((c ^^^ flipBit (a + k)).toNat : Int) by rw [hr]; exact flip_byte c)
            have hr8 : r < 8 := by omega
            have HFS := Lib.hid (show flips p a l (k + 1) = (flips p a l k).set q (c ^^^ flipBit (a + k)) by
              show flip1 p a (flips p a l k) k = _
              unfold flip1; rw [if_pos hb, ← hq, hc])
            clear hfl hce hc hb hq hr
            go_wp2
            have hglt : g < wr.heap.size := World.block_lt_of_cell? wr ⟨g, q, none⟩ g0
            (refine wp_region_tail 13 (by kernel_rfl) (by kernel_rfl) ?_; simp only [List.take_succ_cons, List.take_zero, List.drop_succ_cons, List.drop_zero]; (repeat (go_big_quiet_step ((fail)))); refine wpQuiet_nil ?_)
            intro w3 n3
            have hown3 := hown.keep n3
            have g3 := hown3.cell1 q c _ HCE.out rfl
            have f3 := hown3.free q
            go_wp2
            rw [HFB.out]
            exact ⟨⟨k + 1, by omega, by go_num, by rw [HFS.out]; exact hown3.set1 q (c ^^^ flipBit (a + k)) _ hqs rfl, (hN.trans n3).setCell hgb _⟩, by simp [intOf]; omega⟩
          · have hbit : (bits .and .i64 ((p : Int) / 2 ^ k) 1 == 1) = false := by rw [shift_bit hpb]; simpa using hb
            have HFS := Lib.hid (show flips p a l (k + 1) = flips p a l k by
              show flip1 p a (flips p a l k) k = _
              unfold flip1; rw [if_neg hb])
            clear hb
            go_wp2
            go_roundw
            case rel => exact ⟨k + 1, by omega, by go_num, by rw [HFS.out]; exact hown, hN⟩
            case measure => simp [intOf]; omega
        · obtain rfl : k = 16 := by omega
          go_wp2_with fail
          refine (CheckOf_any s _ (by omega)).mono ?_
          rintro e w4 ⟨rfl, n4⟩
          have hown4 := hown.keep n4
          have HFL := Lib.hid (flips_length p a l 16)
          have HBL := Lib.hid (burst_law p a l (by rw [HL.out]; omega) (by omega) hpb)
          generalize flips p a l 16 = l2 at *
          have hl2 : l2.length = s.size := by rw [HFL.out, HL.out]
          have hrd := hown4.rd
          have hcv := run_convert_bytes_back (P := Try.prog) w4 24 9 5 ⟨g, 0, none⟩ cap l2 Try.underlying24 Try.underlying5 Try.underlying9 (fun j hj => by
            have := hown4.cell1 j l2[j] _ (List.getElem?_eq_getElem hj) rfl
            unfold Addr.add
            split
            · rename_i h0; subst h0; exact this
            · simpa using this)
          rw [hl2] at hcv
          go_wp2_with fail
          refine (CheckOf_any ⟨l2.toArray⟩ _ (by show l2.toArray.size ≤ 3000; simp; omega)).mono ?_
          rintro e w5 ⟨rfl, n5⟩
          have HBL2 : (((crcS s.data.toList : Nat) : Int) != ((crcS l2 : Nat) : Int)) = true := by rw [HSL.out, bne_iff_ne]; intro h; exact HBL.out (Int.ofNat.inj h)
          have hN5 := ((hN.trans n4).trans n5)
          have c1 : inR ((crcS s.data.toList : Nat) : Int) 0 65535 = true := by have := crcS_lt s.data.toList; simp [inR]; omega
          have c2 : inR ((crcS l2 : Nat) : Int) 0 65535 = true := by have := crcS_lt l2; simp [inR]; omega
          have C1 := Lib.hid c1
          have C2 := Lib.hid c2
          clear c1 c2 hown hown4 hrd n4 n5 hN hcv
          go_wp2_with fail
          refine (bWithin_is _ _ _ true _ C1.out).mono ?_
          rintro e w6 ⟨rfl, rfl⟩
          go_wp2_with fail
          refine (bWithin_is _ _ _ true _ C2.out).mono ?_
          rintro e w6 ⟨rfl, rfl⟩
          go_wp2_with fail
          go_ret
          exact ⟨rfl, hN5⟩
end Go.Proofs.Ytjpkcmlepjbamaa
