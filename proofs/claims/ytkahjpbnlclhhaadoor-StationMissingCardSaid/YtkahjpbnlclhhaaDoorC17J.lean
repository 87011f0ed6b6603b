/- Contracts: check, CheckOf.
   Contracts: Index and Contains at pairs.
   Contract: CheckNet.
   Contracts: disturb, open.
   Contracts: planned, PlanFor.
   Contracts: CheckOf, Exchanges, Net, awake.
   Contracts: base's Within, Mod, IsTick, Floor, Ceil, Size.
   Contracts: the order of lists (cmp.Compare, slices.Compare, Before); groups of the program.
   Contracts: groups of the program: a search whose closure is asked of the slice's own numbers; group; GroupOf.
   Contract: CheckPlan. -/
import Derived.BigQuiet
import Derived.Deep.AppendLies
import Derived.Deep.Draws
import Derived.Deep.Quiet
import Derived.Deep.QuietTactic
import Derived.Lib.Hide
import Derived.StillTail
import Derived.Test.YtkahjpbnlclhhaaDoorProg
import Derived.WalkKit
import Derived.WalkLawsBesides
import Derived.WalkSpells
import Derived.Test.YtkahjpbnlclhhaaDoorC17A
import Derived.Test.YtkahjpbnlclhhaaDoorC17B
import Derived.Test.YtkahjpbnlclhhaaDoorC17I

namespace Go.Proofs.YtkahjpbnlclhhaaDoor
open Go.RowKit Go.Sky

theorem ofInt_i64 (a : Nat) (ha : a < 9223372036854775808) : (BitVec.ofInt 64 (a : Int)).toNat = a := by
  rw [BitVec.ofInt_natCast, BitVec.toNat_ofNat]; exact Nat.mod_eq_of_lt (by omega)
theorem i64_xor_nat (a b : Nat) (ha : a < 9223372036854775808) (hb : b < 9223372036854775808) : bits .xor .i64 (a : Int) (b : Int) = ((a ^^^ b : Nat) : Int) := by
  have hx : a ^^^ b < 2 ^ 63 := Nat.xor_lt_two_pow (by omega) (by omega)
  show IntKind.i64.wrap ((BitVec.ofInt 64 (a : Int) ^^^ BitVec.ofInt 64 (b : Int)).toNat : Int) = _
  rw [BitVec.toNat_xor, ofInt_i64 a ha, ofInt_i64 b hb, IntKind.wrap_i64]
  omega

theorem crcBit_big {r : Nat} (h : 65535 < r * 2) : crcBit r = (r * 2) ^^^ 69665 := by unfold crcBit; rw [if_pos h]
theorem crcBit_small {r : Nat} (h : ¬ 65535 < r * 2) : crcBit r = r * 2 := by unfold crcBit; rw [if_neg h]
theorem crc_big {m : Nat} (hm : m < 65536) (hb : 65535 < m * 2) : bits .xor .i64 ((m : Int) * 2) 69665 = ((crcBit m : Nat) : Int) := by
  rw [crcBit_big hb]
  have e1 : ((m : Int) * 2) = ((m * 2 : Nat) : Int) := by omega
  have e2 : (69665 : Int) = ((69665 : Nat) : Int) := by omega
  rw [e1, e2]
  exact i64_xor_nat _ _ (by omega) (by omega)
theorem crc_small {m : Nat} (hb : ¬ 65535 < m * 2) : (m : Int) * 2 = ((crcBit m : Nat) : Int) := by
  rw [crcBit_small hb]; omega
theorem crc_in {q : Nat} {c : UInt8} (hq : q < 65536) : bits .xor .i64 (q : Int) ((c.toNat : Int) * 256) = ((q ^^^ (c.toNat * 256) : Nat) : Int) ∧ q ^^^ (c.toNat * 256) < 65536 := by
  have h2 : c.toNat * 256 < 2 ^ 16 := by have := c.toNat_lt; omega
  refine ⟨?_, ?_⟩
  · have e1 : ((c.toNat : Int) * 256) = ((c.toNat * 256 : Nat) : Int) := by omega
    rw [e1]
    exact i64_xor_nat _ _ (by omega) (by omega)
  · have h1 : q < 2 ^ 16 := hq
    exact Nat.xor_lt_two_pow h1 h2

/-- What holds of the remainder and the counter of the inner loop. -/
def CrcRel (r0 : Nat) (r i : Value) : Prop := ∃ (j m : Nat), j ≤ 8 ∧ i = .int .i64 j ∧ r = .int .i64 m ∧ m < 65536 ∧ m = crcBits r0 j

set_option maxRecDepth 100000 in
set_option maxHeartbeats 2000000 in
theorem check_any (s : ByteArray) (w : World) (hs : s.size ≤ 1000000) :
    Calls Tryd.prog 65 #[.string s] w fun e w' => e = .returned (.int .i64 (crcS s.data.toList)) ∧ New w w' := by
  go_enter Tryd.func65, Tryd.ntmps65
  go_wp2_with (refine wpList_bytes _ rfl _ 9 56 5 rfl Tryd.underlying9 Tryd.underlying56 Tryd.underlying5 s rfl ?_; intro g cap w1 hN1 hr hg)
  have HR := Lib.hid hr; clear hr
  go_loop [3, 5, 9, 12, 13, 14, 15, 16, 17, 18, 19, 20, 21, 22, 23, 24, 25, 26] (fun r _ i _ _ _ _ _ _ _ _ _ _ _ _ _ _ _ => ∃ (k : Nat) (q : Nat), k ≤ s.size ∧ i = .int .i64 k ∧ r = .int .i64 q ∧ q < 65536 ∧ Hid (q = foldTo crcByte 65535 s.data.toList k)) (fun _ _ i _ _ _ _ _ _ _ _ _ _ _ _ _ _ _ => s.size - (intOf i).toNat)
  case atStart => exact ⟨0, 65535, by omega, rfl, rfl, by omega, rfl⟩
  case round =>
    obtain ⟨k, q, hk, rfl, rfl, hq, HF⟩ := hrel
    by_cases hlt : k < s.size
    · obtain ⟨b, o, c, hA, hb, hc, hcell⟩ := HR.out.at_ hlt
      injection hA with hA
      injection hA with h1 h2
      subst h1 h2
      have g0 := hcell 0 _ rfl
      simp only [Nat.add_zero, Nat.mul_one, Nat.zero_add] at g0
      have HX := Lib.hid hc
      clear hcell hc
      have hc0 : (0 : Int) ≤ (c.toNat : Int) := by omega
      have hc1 : (c.toNat : Int) ≤ 255 := by have := c.toNat_lt; omega
      have HXR := Lib.hid (crc_in (c := c) hq).1
      have hr0 := (crc_in (c := c) hq).2
      have HST := Lib.hid (show foldTo crcByte 65535 s.data.toList (k + 1) = crcBits (q ^^^ (c.toNat * 256)) 8 by rw [foldTo_step _ _ _ _ _ HX.out, ← HF.out]; rfl)
      go_wp2
      rw [HXR.out]
      generalize q ^^^ (c.toNat * 256) = r0 at *
      go_loop [3, 18] (fun r i => CrcRel r0 r i) (fun _ i => 8 - (intOf i).toNat)
      case atStart => exact ⟨0, r0, by omega, rfl, rfl, hr0, rfl⟩
      case round =>
        obtain ⟨j, m, hj, rfl, rfl, hm, hm0⟩ := hrel
        have HM := Lib.hid hm0; clear hm0
        by_cases hj8 : j < 8
        · obtain ⟨m', hm'⟩ : ∃ m', m' = crcBit m := ⟨_, rfl⟩
          have hmb : m' < 65536 := by rw [hm']; exact crcBit_lt hm
          have HM1 := Lib.hid (show m' = crcBits r0 (j + 1) by rw [hm', HM.out]; rfl)
          by_cases hbig : 65535 < m * 2
          · have HXM := Lib.hid (show bits .xor .i64 ((m : Int) * 2) 69665 = (m' : Int) by rw [hm']; exact crc_big hm hbig)
            have hbig' : (65535 : Int) < (m : Int) * 2 := by omega
            clear hbig hm' HM
            (repeat (first | go_values | go_skip | go_guarded | go_step | go_upon))
            go_round
            case rel => rw [HXM.out]; exact ⟨j + 1, m', by omega, by go_num, rfl, hmb, HM1.out⟩
            case measure => simp [intOf]; omega
          · have HXM := Lib.hid (show (m : Int) * 2 = (m' : Int) by rw [hm']; exact crc_small hbig)
            have hbig' : ¬ (65535 : Int) < (m : Int) * 2 := by omega
            clear hbig hm' HM
            (repeat (first | go_values | go_skip | go_guarded | go_step | go_upon))
            go_round
            case rel => rw [HXM.out]; exact ⟨j + 1, m', by omega, by go_num, rfl, hmb, HM1.out⟩
            case measure => simp [intOf]; omega
        · obtain rfl : j = 8 := by omega
          have HFI := Lib.hid (show m = foldTo crcByte 65535 s.data.toList (k + 1) by rw [HST.out]; exact HM.out)
          clear HM HST HF
          go_wp2
          go_round
          case rel => exact ⟨k + 1, m, by omega, by go_num, rfl, hm, HFI.out⟩
          case measure => simp [intOf]; omega
    · go_wp2
      go_ret
      exact ⟨by rw [HF.out, foldTo_all _ _ _ _ (by simp; omega)]; rfl, hN1⟩
end Go.Proofs.YtkahjpbnlclhhaaDoor

namespace Go.Proofs.YtkahjpbnlclhhaaDoor
open Go.RowKit Go.Sky

def encP (p : Int × Int) : List Value := [.int .i64 p.1, .int .i64 p.2]

theorem eql_pair_d (n : Nat) (a b c d : Int) (W : World) : (Op.equalIn (n + 2) 129 (.agg #[.int .i64 a, .int .i64 b]) (.agg #[.int .i64 c, .int .i64 d])).run Tryd.prog W = .ok (a == c && b == d) W := by
  have u := Tryd.underlying129
  have u3 := Tryd.underlying3
  have z3 := Tryd.sizeOf3
  have a3 := Tryd.isAgg3
  rw [Op.equalIn]
  by_cases h1 : a = c <;> by_cases h2 : b = d
  all_goals
    simp [run_underlying u, part, go_sem, h1, h2, a3, u3, List.range']

theorem eql_pair (a b c d : Int) (W : World) : (Op.equalIn 10000 129 (.agg #[.int .i64 a, .int .i64 b]) (.agg #[.int .i64 c, .int .i64 d])).run Tryd.prog W = .ok (a == c && b == d) W := eql_pair_d 9998 a b c d W
theorem guard_pair : (Tryd.prog).eqGuardType (Tryd.prog).depth 129 = false := by kernel_rfl

set_option maxRecDepth 100000 in
set_option maxHeartbeats 1000000 in
theorem indexP (A : Option Addr) (n cap : Nat) (xs : List (Int × Int)) (p : Int × Int) (w : World) (hn : n ≤ 1000000) (hr : Rd w 2 encP A n xs) :
    Calls Tryd.prog 116 #[.slice A n cap, .agg #[.int .i64 p.1, .int .i64 p.2]] w fun e w' => e = .returned (.int .i64 (idxS (sameP p) xs)) ∧ New w w' := by
  have HR := Lib.hid hr; clear hr
  have heq := eql_pair
  have hgu := guard_pair
  go_enter Tryd.func116, Tryd.ntmps116
  go_wp2
  go_loopw [5, 8] (fun _ i wr => ∃ k : Nat, k ≤ n ∧ i = .int .i64 k ∧ Hid (∀ j x, j < k → xs[j]? = some x → sameP p x = false) ∧ Bx wr w.heap.size 129 #[.int .i64 p.1, .int .i64 p.2] ∧ New w wr) (fun _ i _ => n - (intOf i).toNat)
  case atStart => exact ⟨0, by omega, rfl, (fun j x hj => absurd hj (by omega)), Bx.mk _ _ _, (New.refl _).alloc _⟩
  case round =>
    obtain ⟨k, hk, rfl, HF, hbx, hN⟩ := hrel
    by_cases hlt : k < n
    · obtain ⟨b, o, x, rfl, hb, hx, hc⟩ := (HR.out.keep hN).at_ hlt
      have g0 := hc 0 _ rfl
      have g1 := hc 1 _ rfl
      simp only [Nat.add_zero] at g0
      have p0 : wr.cell? _ = some _ := hbx.cell 0
      have p1 : wr.cell? _ = some _ := hbx.cell 1
      have l1 : (0 : Int) ≤ (k : Int) := by omega
      have l2 : (k : Int) < (n : Int) := by omega
      have hlt0 := hbx.lt
      have HX := Lib.hid hx
      clear hx hc
      obtain ⟨q, hq⟩ : ∃ q, sameP p x = q := ⟨_, rfl⟩
      have HQ := Lib.hid hq
      unfold sameP at hq
      cases q
      · go_wp2
        (refine wp_region_new (by kernel_rfl) (by kernel_rfl) ?_; (repeat (go_big_quiet_step ((fail)))); refine wpQuiet_nil ?_)
        intro w2 n2
        go_wp2
        go_roundw
        case rel => exact ⟨k + 1, by omega, by go_num, fun j y hj hy => by
          rcases Nat.lt_or_ge j k with h | h
          · exact HF.out j y h hy
          · obtain rfl : j = k := by omega
            have hxy := HX.out
            rw [hy] at hxy
            injection hxy with hxy
            rw [hxy]
            exact HQ.out, hbx.keep n2, hN.trans n2⟩
        case measure => simp [intOf]; omega
      · go_wp2
        (refine wp_region_new (by kernel_rfl) (by kernel_rfl) ?_; (repeat (go_big_quiet_step ((fail)))); refine wpQuiet_nil ?_)
        intro w2 n2
        go_wp2
        go_ret
        exact ⟨by rw [idxS_hit (sameP p) xs k x HX.out HQ.out HF.out]; rfl, hN.trans n2⟩
    · go_wp2
      go_ret
      exact ⟨by rw [idxS_miss (sameP p) xs n HR.out.len (fun j y hj hy => HF.out j y (by omega) hy)]; rfl, hN⟩

set_option maxRecDepth 100000 in
set_option maxHeartbeats 400000 in
theorem containsP (A : Option Addr) (n cap : Nat) (xs : List (Int × Int)) (p : Int × Int) (w : World) (hn : n ≤ 1000000) (hr : Rd w 2 encP A n xs) :
    Calls Tryd.prog 103 #[.slice A n cap, .agg #[.int .i64 p.1, .int .i64 p.2]] w fun e w' => e = .returned (.bool (xs.any (sameP p))) ∧ New w w' := by
  have HR := Lib.hid hr; clear hr
  have HA := Lib.hid (idxS_any (sameP p) xs)
  go_enter Tryd.func103, Tryd.ntmps103
  go_wp2_with (go_at_call 116; refine (indexP A n cap xs p _ hn (HR.out.keep ((New.refl _).alloc _))).mono ?_; rintro e w1 ⟨rfl, hn1⟩)
  go_ret
  exact ⟨by rw [← HA.out]; rfl, ((New.refl _).alloc _).trans hn1⟩
end Go.Proofs.YtkahjpbnlclhhaaDoor

namespace Go.Proofs.YtkahjpbnlclhhaaDoor
open Go.RowKit Go.Sky

set_option maxRecDepth 100000 in
set_option maxHeartbeats 2000000 in
theorem checkNet_any (st : Int) (A : Option Addr) (n cap : Nat) (ps : List (Int × Int)) (w : World) (hn : n ≤ 100000) (hcap : n ≤ cap) (hr : Rd w 2 encP A n ps) :
    Calls Tryd.prog 86 #[.agg #[.int .i64 st, .slice A n cap]] w fun e w' => e = .returned (.tuple #[.int .i64 (netS st ps).1, .int .i64 (netS st ps).2]) ∧ New w w' := by
  have HL := Lib.hid hr.len
  have HR := Lib.hid hr; clear hr
  obtain ⟨E, hE⟩ : ∃ E, E = netE0 st n := ⟨_, rfl⟩
  have HE := Lib.hid (show E = firstE [errU (inR st 1 8) 2, errU (decide ((n : Int) ≤ 28)) 8] from hE)
  by_cases hz : E = 0
  · have b1 : (E != 0) = false := by simpa using hz
    obtain ⟨s1, s2, s3⟩ := netE0_zero (hE ▸ hz)
    have HS := Lib.hid (show netS st ps = netFrom st (ps.take 0) (ps.drop 0) (0 : Nat) by unfold netS; rw [HL.out, ← hE, if_pos hz]; rfl)
    clear hE hz
    go_enter Tryd.func86, Tryd.ntmps86
    go_wp2
    (refine wp_region_tail 9 (by kernel_rfl) (by kernel_rfl) ?_; simp only [List.take_succ_cons, List.take_zero, List.drop_succ_cons, List.drop_zero]; (repeat (go_big_quiet_step ((first | (go_at_call 53; exact quiet_same (within_any _ _ _ _)) | (go_at_call 42; exact quiet_same (unless_any _ _ _)))))); refine wpQuiet_nil ?_)
    intro w1 n1
    have hb := (Bx.mk w 82 #[.int .i64 st, .slice A n cap]).keep n1
    have a0 : w1.cell? _ = some _ := hb.cell 0
    have a1 : w1.cell? _ = some _ := hb.cell 1
    have hlt1 := hb.lt
    go_wp2_with (go_at_call 41; refine (first_any _ 2 2 [_, _] _ (by omega) rfl (cells_new _ _ _ _ (by simp) _ rfl)).mono ?_; rintro e w' ⟨rfl, rfl⟩; rw [← HE.out])
    have hN1 := hn2of n1
    go_loopw [5, 6, 7, 25] (fun _ _ _ i wr => ∃ k : Nat, k ≤ n ∧ i = .int .i64 k ∧ Hid (netS st ps = netFrom st (ps.take k) (ps.drop k) k) ∧ Bx wr w.heap.size 82 #[.int .i64 st, .slice A n cap] ∧ New w wr) (fun _ _ _ i _ => n - (intOf i).toNat)
    case atStart => exact ⟨0, by omega, rfl, HS.out, hb.alloc _, hN1.alloc _⟩
    case round =>
      clear hb a0 a1 hlt1 HS
      obtain ⟨k, hk, rfl, HF, hb, hN⟩ := hrel
      by_cases hlt : k < n
      · obtain ⟨b, o, p, rfl, hbl, hp, hc⟩ := (HR.out.keep hN).at_ hlt
        have g0 := hc 0 _ rfl
        have g1 := hc 1 _ rfl
        simp only [Nat.add_zero] at g0
        have a0 : wr.cell? _ = some _ := hb.cell 0
        have a1 : wr.cell? _ = some _ := hb.cell 1
        have hlt1 := hb.lt
        have HST := Lib.hid (netFrom_step (st := st) hp)
        clear hp hc
        have HRT := Lib.hid ((HR.out.keep hN).take (m := k) (by omega))
        have l1 : (0 : Int) ≤ (k : Int) := by omega
        have l2 : (k : Int) ≤ (cap : Int) := by omega
        obtain ⟨c1, hc1⟩ : ∃ c, inR p.1 0 (st - 1) = c := ⟨_, rfl⟩
        obtain ⟨pe, hpe⟩ : ∃ pe, pe = pairErr st (ps.take k) p := ⟨_, rfl⟩
        have HPE := Lib.hid hpe
        obtain ⟨X, HPX, hc2⟩ : ∃ X, Hid (pe = firstE [errU X 6, errU (decide (p.1 < p.2)) 9, errU (!(ps.take k).any (sameP p)) 23]) ∧ ((c1 = false ∧ X = false) ∨ (c1 = true ∧ X = inR p.2 0 (st - 1))) := by
          cases c1
          · exact ⟨false, Lib.hid (by rw [hpe]; unfold pairErr; rw [hc1]; rfl), .inl ⟨rfl, rfl⟩⟩
          · exact ⟨_, Lib.hid (by rw [hpe]; unfold pairErr; rw [hc1]; rfl), .inr ⟨rfl, rfl⟩⟩
        have hpz : (pe = 0 ∧ (pe != 0) = false) ∨ (pe ≠ 0 ∧ (pe != 0) = true) := by
          by_cases h : pe = 0
          · exact .inl ⟨h, by simpa using h⟩
          · exact .inr ⟨h, by simpa using h⟩
        clear hpe
        rcases hc2 with ⟨rfl, rfl⟩ | ⟨rfl, rfl⟩ <;> rcases hpz with ⟨hz0, b2⟩ | ⟨hz0, b2⟩
        all_goals
          have HZ := Lib.hid hz0
          clear hz0
          go_wp2
          (refine wp_region_tail 29 (by kernel_rfl) (by kernel_rfl) ?_; simp only [List.take_succ_cons, List.take_zero, List.drop_succ_cons, List.drop_zero]; (repeat (go_big_quiet_step ((first | (go_at_call 53; exact quiet_same (within_is _ _ _ false _ (by assumption))) | (go_at_call 53; exact quiet_same (within_is _ _ _ true _ (by assumption))) | (go_at_call 53; exact quiet_same (within_any _ _ _ _)) | (go_at_call 42; exact quiet_same (unless_any _ _ _)) | (go_at_call 103; exact quiet_new (containsP _ k cap (ps.take k) p _ (by omega) (by exact HRT.out.keep (((New.refl _).alloc _).trans (plus_new _ _))))))))); refine wpQuiet_nil ?_)
          intro w2 n2
          go_wp2_with (go_at_call 41; refine (first_any _ 3 3 [_, _, _] _ (by omega) rfl (cells_new _ _ _ _ (by simp) _ rfl)).mono ?_; rintro e w' ⟨rfl, rfl⟩; rw [← HPX.out])
        · go_roundw
          case rel => exact ⟨k + 1, by omega, by go_num, by rw [HF.out, HST.out, ← HPE.out, if_pos HZ.out]; rfl, ((hb.alloc _).keep n2).alloc _, ((hN.alloc _).trans n2).alloc _⟩
          case measure => simp [intOf]; omega
        · go_ret2
          exact ⟨by rw [HF.out, HST.out, ← HPE.out, if_neg HZ.out]; rfl, ((hN.alloc _).trans n2).alloc _⟩
        · go_roundw
          case rel => exact ⟨k + 1, by omega, by go_num, by rw [HF.out, HST.out, ← HPE.out, if_pos HZ.out]; rfl, ((hb.alloc _).keep n2).alloc _, ((hN.alloc _).trans n2).alloc _⟩
          case measure => simp [intOf]; omega
        · go_ret2
          exact ⟨by rw [HF.out, HST.out, ← HPE.out, if_neg HZ.out]; rfl, ((hN.alloc _).trans n2).alloc _⟩
      · go_wp2
        go_ret2
        exact ⟨by rw [HF.out, List.drop_of_length_le (by rw [HL.out]; omega)]; rfl, hN⟩
  · have b1 : (E != 0) = true := by simpa using hz
    have HS := Lib.hid (show netS st ps = (0, E) by unfold netS; rw [HL.out, ← hE, if_neg hz])
    clear hE hz
    go_enter Tryd.func86, Tryd.ntmps86
    go_wp2
    (refine wp_region_tail 9 (by kernel_rfl) (by kernel_rfl) ?_; simp only [List.take_succ_cons, List.take_zero, List.drop_succ_cons, List.drop_zero]; (repeat (go_big_quiet_step ((first | (go_at_call 53; exact quiet_same (within_any _ _ _ _)) | (go_at_call 42; exact quiet_same (unless_any _ _ _)))))); refine wpQuiet_nil ?_)
    intro w1 n1
    go_wp2_with (go_at_call 41; refine (first_any _ 2 2 [_, _] _ (by omega) rfl (cells_new _ _ _ _ (by simp) _ rfl)).mono ?_; rintro e w' ⟨rfl, rfl⟩; rw [← HE.out])
    go_ret2
    exact ⟨by rw [HS.out]; rfl, (hn2of n1).alloc _⟩
end Go.Proofs.YtkahjpbnlclhhaaDoor

namespace Go.Proofs.YtkahjpbnlclhhaaDoor
open Go.RowKit Go.Sky

def encU (n : Nat) : List Value := [.int .u64 (n : Int)]

theorem infoUint : (Tryd.prog.info? 143).map (fun i => (i.zero, i.size, i.bytes)) = some (some (.int .u64 0), 1, 8) := by kernel_rfl

set_option maxRecDepth 100000 in
set_option maxHeartbeats 400000 in
theorem disturb_any (A : Option Addr) (n cap : Nat) (ms : List Nat) (a b : Nat) (w : World) (hr : Rd w 1 encU A n ms) (ha : a < n) (_hn : n ≤ 8) (hb : b < 8) (hm : ∀ m ∈ ms, m < 256) :
    Calls Tryd.prog 87 #[.slice A n cap, .int .i64 a, .int .i64 b] w fun e w' => e = .returned (.bool ((ms.getD a 0).testBit b)) ∧ w = w' := by
  obtain ⟨bl, o, m, rfl, hbl, hx, hc⟩ := hr.at_ ha
  have g0 := hc 0 _ rfl
  simp only [Nat.add_zero, Nat.mul_one] at g0
  have hm256 := hm m (List.mem_of_getElem? hx)
  have HX := Lib.hid hx
  clear hx hc hr hm
  go_enter Tryd.func87, Tryd.ntmps87
  go_wp2
  have hdiv : (m : Int) / 2 ^ b = ((m / 2 ^ b : Nat) : Int) := by simp
  have hle : m / 2 ^ b ≤ m := Nat.div_le_self _ _
  have hbit : (bits .and .u64 ((m : Int) / 2 ^ b) 1 == 1) = (ms.getD a 0).testBit b := by
    rw [hdiv, List.getD_eq_getElem?_getD, HX.out, Option.getD_some, Nat.testBit_eq_decide_div_mod_eq]
    generalize m / 2 ^ b = q at *
    rw [and_one_u64 _ (by omega) (by omega)]
    rw [Bool.eq_iff_iff]
    simp
    omega
  go_ret
  exact ⟨by rw [← hbit]; rfl, rfl⟩

theorem or_mask {m y : Nat} (hm : m < 256) (hy : y < 8) : bits .or .u64 (m : Int) (IntKind.u64.wrap (2 ^ y)) = ((m ||| 2 ^ y : Nat) : Int) := by
  have h2 : (2 : Nat) ^ y < 256 := Nat.lt_of_lt_of_le (Nat.pow_lt_pow_right (by omega) hy) (by decide)
  have e : IntKind.u64.wrap ((2 : Int) ^ y) = ((2 ^ y : Nat) : Int) := by
    rw [IntKind.wrap_u64]
    have e1 : ((2 : Int) ^ y) = ((2 ^ y : Nat) : Int) := by simp
    rw [e1]
    generalize 2 ^ y = t at *
    omega
  rw [e]
  exact u64_or_nat _ _ (by omega) (by omega)

set_option maxRecDepth 100000 in
set_option maxHeartbeats 4000000 in
theorem open_any (st : Int) (A : Option Addr) (n cap : Nat) (ps : List (Int × Int)) (w : World) (hn : n ≤ 100000) (hcap : n ≤ cap) (hr : Rd w 2 encP A n ps) :
    Calls Tryd.prog 66 #[.agg #[.int .i64 st, .slice A n cap]] w fun e w' => New w w' ∧
      (((netS st ps).2 ≠ 0 ∧ e = .returned (.tuple #[.slice none 0 0, .int .i64 (netS st ps).2])) ∨
       ((netS st ps).2 = 0 ∧ ∃ A', e = .returned (.tuple #[.slice A' st.toNat st.toNat, .int .i64 0]) ∧ Own w' w.heap.size 143 1 encU A' st.toNat st.toNat (maskS st.toNat ps))) := by
  have HL := Lib.hid hr.len
  have HR := Lib.hid hr; clear hr
  obtain ⟨i0, hi, hz0, hz1, hz2⟩ := info_parts infoUint
  by_cases hz : (netS st ps).2 = 0
  · have b1 : ((netS st ps).2 != 0) = false := by simpa using hz
    obtain ⟨q1, q2, q3, q4⟩ := netS_zero hz
    obtain ⟨s, rfl⟩ : ∃ s : Nat, st = (s : Int) := ⟨st.toNat, by omega⟩
    have hs : s ≤ 8 := by omega
    have hs1 : 1 ≤ s := by omega
    have HQ := Lib.hid q4
    have HZ := Lib.hid hz
    clear q4 hz
    go_enter Tryd.func66, Tryd.ntmps66
    go_wp2_with fail
    refine (checkNet_any (s : Int) A n cap ps _ hn hcap (HR.out.keep ((New.refl _).alloc _))).mono ?_
    rintro e w1 ⟨rfl, n1⟩
    have hb := (Bx.mk w 82 #[.int .i64 (s : Int), .slice A n cap]).keep n1
    have a0 : w1.cell? _ = some _ := hb.cell 0
    have a1 : w1.cell? _ = some _ := hb.cell 1
    have hN1 := hn2of n1
    go_wp2_with (refine wpList_mk _ rfl _ _ 125 rfl w.heap.size 143 i0 _ Tryd.underlying125 hi hz0 hz1 rfl encU (fun _ => rfl) 0 rfl s rfl rfl (by rw [hz2]; omega) (by unfold maxLen; omega) (by exact hN1.size) ?_; intro w2 hown n2 hlt2; have hb2 := hb.keep n2; have a0' : w2.cell? _ = some _ := hb2.cell 0; have a1' : w2.cell? _ = some _ := hb2.cell 1)
    have hN2 := hN1.trans n2
    have hgb := hN1.size
    clear a0 a1 a0' a1' hb n1 n2
    obtain ⟨g, hg⟩ : ∃ g, w1.heap.size = g := ⟨_, rfl⟩
    rw [hg] at hown hlt2 hgb ⊢
    go_loopw [8, 23] (fun _ i wr => ∃ k : Nat, k ≤ n ∧ i = .int .i64 k ∧ Own wr w.heap.size 143 1 encU (some ⟨g, 0, none⟩) s s (foldTo maskStep (List.replicate s 0) ps k) ∧ Hid (∀ m ∈ foldTo maskStep (List.replicate s 0) ps k, m < 256) ∧ New w wr ∧ g < wr.heap.size) (fun _ i _ => n - (intOf i).toNat)
    case atStart => exact ⟨0, by omega, rfl, hown, Lib.hid (fun m hm => by rw [foldTo_zero] at hm; rw [List.eq_of_mem_replicate hm]; omega), hN2, hlt2⟩
    case round =>
      clear hown hlt2
      obtain ⟨k, hk, rfl, hown, HM, hN, hlt2⟩ := hrel
      by_cases hlt : k < n
      · obtain ⟨b, o, p, rfl, hbl, hp, hc⟩ := (HR.out.keep hN).at_ hlt
        have g0 := hc 0 _ rfl
        have g1 := hc 1 _ rfl
        simp only [Nat.add_zero] at g0
        obtain ⟨p1, p2, p3⟩ := HQ.out p (List.mem_of_getElem? hp)
        obtain ⟨x, y⟩ := p
        dsimp only at g0 g1 p1 p2 p3
        obtain ⟨x, rfl⟩ := Int.eq_ofNat_of_zero_le p1
        obtain ⟨y, rfl⟩ := Int.eq_ofNat_of_zero_le (show 0 ≤ y by omega)
        have hx8 : x < 8 := by omega
        have hy8 : y < 8 := by omega
        have hxs : x < s := by omega
        have hys : y < s := by omega
        have hFS := foldTo_step maskStep (List.replicate s 0) ps k _ hp
        have HFS := Lib.hid hFS
        clear hc hp hFS
        generalize foldTo maskStep (List.replicate s 0) ps k = ms at *
        have hml := Lib.hid hown.len
        obtain ⟨m, hm⟩ : ∃ m, ms.getD x 0 = m := ⟨_, rfl⟩
        have hme : ms[x]? = some m := by rw [← hm, List.getD_eq_getElem?_getD, List.getElem?_eq_getElem (by rw [hml.out]; omega)]; rfl
        have hm256 := HM.out m (List.mem_of_getElem? hme)
        have hcx := hown.cell1 x m _ hme rfl
        have hfx := hown.free x
        have HOR := Lib.hid (or_mask (y := y) hm256 hy8)
        have HMS := Lib.hid (show orAt ms x y = ms.set x (m ||| 2 ^ y) by unfold orAt; rw [hm])
        have HM2 := Lib.hid (orAt_lt (a := x) (b := y) HM.out hy8)
        have HME := Lib.hid hme
        clear hme hm
        have hbp := Bx.mk wr 129 #[.int .i64 (x : Int), .int .i64 (y : Int)]
        go_wp2
        (refine wp_region_tail 10 (by kernel_rfl) (by kernel_rfl) ?_; simp only [List.take_succ_cons, List.take_zero, List.drop_succ_cons, List.drop_zero]; (repeat (go_big_quiet_step ((fail)))); refine wpQuiet_nil ?_)
        intro w3 n3
        rw [HOR.out]
        have hown3 := (hown.alloc (.cells #[.int .i64 (x : Int), .int .i64 (y : Int)] 129)).keep n3
        have hcx3 := hown3.cell1 x m _ HME.out rfl
        have hfx3 := hown3.free x
        have hb3 := hbp.keep n3
        have hN3 := (hN.alloc (.cells #[.int .i64 (x : Int), .int .i64 (y : Int)] 129)).trans n3
        have hlt3 := Nat.lt_of_lt_of_le hlt2 (hn2of n3).size
        have hne : wr.heap.size ≠ g := by omega
        have hown4 := hown3.set1 x (m ||| 2 ^ y) (.int .u64 ((m ||| 2 ^ y : Nat) : Int)) hxs rfl
        rw [← HMS.out] at hown4
        have hb4 := hb3.far (p := ⟨g, x, none⟩) hne (.int .u64 ((m ||| 2 ^ y : Nat) : Int))
        have hN4 := hN3.setCell (p := ⟨g, x, none⟩) hgb (.int .u64 ((m ||| 2 ^ y : Nat) : Int))
        have hlt4 : g < (w3.setCell ⟨g, x, none⟩ (.int .u64 ((m ||| 2 ^ y : Nat) : Int))).heap.size := by simpa [World.setCell] using hlt3
        clear hown hown3 hcx hfx hb3 hN3 hbp n3 HMS HME HOR
        go_wp2
        generalize w3.setCell ⟨g, x, none⟩ (.int .u64 ((m ||| 2 ^ y : Nat) : Int)) = w4 at *
        clear hcx3 hfx3 hlt3
        have HFS2 := Lib.hid (show maskStep ms ((x : Int), (y : Int)) = orAt (orAt ms x y) y x by simp [maskStep])
        generalize orAt ms x y = ms2 at *
        have hml2 := Lib.hid hown4.len
        obtain ⟨m2, hm2⟩ : ∃ m, ms2.getD y 0 = m := ⟨_, rfl⟩
        have hme2 : ms2[y]? = some m2 := by rw [← hm2, List.getD_eq_getElem?_getD, List.getElem?_eq_getElem (by rw [hml2.out]; omega)]; rfl
        have hm2256 := HM2.out m2 (List.mem_of_getElem? hme2)
        have hcy := hown4.cell1 y m2 _ hme2 rfl
        have hfy := hown4.free y
        have HOR2 := Lib.hid (or_mask (y := x) hm2256 hx8)
        have HMS2 := Lib.hid (show orAt ms2 y x = ms2.set y (m2 ||| 2 ^ x) by unfold orAt; rw [hm2])
        have HM3 := Lib.hid (orAt_lt (a := y) (b := x) HM2.out hx8)
        have HME2 := Lib.hid hme2
        clear hme2 hm2
        have q0 : w4.cell? _ = some _ := hb4.cell 0
        have q1 : w4.cell? _ = some _ := hb4.cell 1
        have hlt5 := hb4.lt
        (refine wp_region_tail 10 (by kernel_rfl) (by kernel_rfl) ?_; simp only [List.take_succ_cons, List.take_zero, List.drop_succ_cons, List.drop_zero]; (repeat (go_big_quiet_step ((fail)))); refine wpQuiet_nil ?_)
        intro w5 n5
        rw [HOR2.out]
        have hown5 := hown4.keep n5
        have hcy5 := hown5.cell1 y m2 _ HME2.out rfl
        have hfy5 := hown5.free y
        have hlt6 := Nat.lt_of_lt_of_le hlt4 n5.size
        go_wp2
        go_roundw
        case rel => exact ⟨k + 1, by omega, by go_num, by rw [HFS.out, HFS2.out, HMS2.out]; exact hown5.set1 y (m2 ||| 2 ^ x) _ hys rfl, Lib.hid (by rw [HFS.out, HFS2.out]; exact HM3.out), (hN4.trans n5).setCell hgb _, by simpa [World.setCell] using hlt6⟩
        case measure => simp [intOf]; omega
      · go_wp2
        go_ret2
        refine ⟨hN, .inr ⟨HZ.out, _, rfl, ?_⟩⟩
        rw [foldTo_all _ _ _ _ (by rw [HL.out]; omega)] at hown
        exact hown
  · have b1 : ((netS st ps).2 != 0) = true := by simpa using hz
    have HZ := Lib.hid hz
    clear hz
    go_enter Tryd.func66, Tryd.ntmps66
    go_wp2_with fail
    refine (checkNet_any st A n cap ps _ hn hcap (HR.out.keep ((New.refl _).alloc _))).mono ?_
    rintro e w1 ⟨rfl, n1⟩
    go_wp2
    go_ret2
    exact ⟨hn2of n1, .inl ⟨HZ.out, rfl⟩⟩
end Go.Proofs.YtkahjpbnlclhhaaDoor

namespace Go.Proofs.YtkahjpbnlclhhaaDoor
open Go.RowKit Go.Sky

def PlanPost (w : World) (o : Option (List Int)) (e : Ending) (w' : World) : Prop :=
  ∃ A m cap, e = .returned (.slice A m cap) ∧ New w w' ∧ ((o = none ∧ A = none ∧ m = 0 ∧ cap = 0) ∨ (∃ r a, o = some r ∧ A = some a ∧ Rd w' 1 encI A m r))

set_option maxRecDepth 100000 in
set_option maxHeartbeats 4000000 in
theorem planned_any (ms : List Nat) (s cnt : Nat) (hs : s ≤ 8) (hs1 : 1 ≤ s) (hcnt : cnt ≤ 100) (hm : ∀ m ∈ ms, m < 256) (B : Option Addr) : ∀ (f : Nat) (A : Option Addr) (cap : Nat) (slots : List Int) (w : World),
    slots.length + f = s → Rd w 1 encU B s ms → Rd w 1 encI A slots.length slots →
    Calls Tryd.prog 67 #[.slice B s s, .slice A slots.length cap, .int .i64 cnt] w (PlanPost w (planF ms cnt f slots)) := by
  intro f
  induction f with
  | zero =>
    intro A cap slots w hl hB hA
    have d1 : ((slots.length : Int) == (s : Int)) = true := by simp; omega
    have hRA := Lib.hid hA
    obtain ⟨b, o, rfl, _⟩ := hA.some_ (by omega)
    clear hA hB
    generalize slots.length = L at *
    go_enter Tryd.func67, Tryd.ntmps67
    go_wp2_with fail
    go_ret
    exact ⟨_, L, cap, rfl, New.refl _, .inr ⟨slots, _, rfl, rfl, hRA.out⟩⟩
  | succ f ih =>
    intro A cap slots w hl hB hA
    obtain ⟨i0, hi, hz0, hz1, hz2⟩ := info_parts infoInt
    have IH := Lib.hid ih; clear ih
    have d1 : ((slots.length : Int) == (s : Int)) = false := by simp; omega
    have hRA := Lib.hid hA
    have hRB := Lib.hid hB
    have HMS := Lib.hid hm
    clear hA hB hm
    obtain ⟨L, hL⟩ : ∃ L, slots.length = L := ⟨_, rfl⟩
    have HL := Lib.hid hL
    rw [hL] at hl d1 hRA ⊢
    clear hL
    go_enter Tryd.func67, Tryd.ntmps67
    go_wp2_with fail
    go_loopw [8, 9, 10, 11, 12, 21] (fun _ _ _ _ _ i wr => ∃ k : Nat, k ≤ cnt ∧ i = .int .i64 k ∧ Hid (∀ c, c < k → candS ms cnt f slots c = none) ∧ New w wr) (fun _ _ _ _ _ i _ => cnt - (intOf i).toNat)
    case atStart => exact ⟨0, by omega, rfl, Lib.hid (fun c hc => absurd hc (by omega)), New.refl _⟩
    case round =>
      obtain ⟨k, hk, rfl, HF, hN⟩ := hrel
      by_cases hlt : k < cnt
      · go_wp2_with fail
        go_loop [9, 10, 11, 26] (fun fr _ _ i => ∃ (j : Nat) (q : Bool), j ≤ L ∧ i = .int .i64 j ∧ fr = .bool q ∧ Hid (q = freeTo ms slots (k : Int) j)) (fun _ _ _ i => L - (intOf i).toNat)
        case atStart => exact ⟨0, true, by omega, rfl, rfl, rfl⟩
        case round =>
          obtain ⟨j, q, hj, rfl, rfl, HQ⟩ := hrel
          by_cases hjl : j < L
          · obtain ⟨b, o, u, rfl, hb, hu, hc⟩ := (hRA.out.keep hN).at_ hjl
            have g0 := hc 0 _ rfl
            simp only [Nat.add_zero, Nat.mul_one] at g0
            have HFS := Lib.hid (show freeTo ms slots (k : Int) (j + 1) = (q && !(u == (k : Int) && (ms.getD j 0).testBit L)) by
              rw [freeTo, ← HQ.out, HL.out, List.getD_eq_getElem?_getD, hu]; rfl)
            clear hc hu
            cases q
            · go_wp2_with fail
              go_round
              case rel => exact ⟨j + 1, false, by omega, by go_num, rfl, by rw [HFS.out]; rfl⟩
              case measure => simp [intOf]; omega
            · obtain ⟨e, he⟩ : ∃ e, (u == (k : Int)) = e := ⟨_, rfl⟩
              have HE := Lib.hid he
              cases e
              · go_wp2_with fail
                go_round
                case rel => exact ⟨j + 1, true, by omega, by go_num, rfl, by rw [HFS.out, HE.out]; rfl⟩
                case measure => simp [intOf]; omega
              · go_wp2_with (go_at_call 87; refine (disturb_any B s s ms j L _ (hRB.out.keep hN) (by omega) (by omega) (by omega) HMS.out).mono ?_; rintro e w' ⟨rfl, rfl⟩)
                go_round
                case rel => exact ⟨j + 1, _, by omega, by go_num, rfl, by rw [HFS.out, HE.out]; rfl⟩
                case measure => simp [intOf]; omega
          · obtain rfl : L = j := by omega
            cases q
            · have HC := Lib.hid (show candS ms cnt f slots k = none by unfold candS; rw [HL.out, ← HQ.out]; rfl)
              go_wp2_with fail
              go_roundw
              case rel => exact ⟨k + 1, by omega, by go_num, Lib.hid (fun c hc => by
                rcases Nat.lt_or_ge c k with h | h
                · exact HF.out c h
                · obtain rfl : c = k := by omega
                  exact HC.out), hN⟩
              case measure => simp [intOf]; omega
            · have HC := Lib.hid (show candS ms cnt f slots k = planF ms cnt f (slots ++ [(k : Int)]) by unfold candS; rw [HL.out, ← HQ.out]; rfl)
              have HLL := Lib.hid (show (slots ++ [(k : Int)]).length = L + 1 by rw [List.length_append, HL.out]; rfl)
              go_wp2_with fail
              refine (cloneI_any A L cap slots _ (by omega) (hRA.out.keep hN)).mono ?_
              rintro e w1 ⟨A1, cap1, rfl, hown1, n1⟩
              go_wp2_with (at_builtin; refine wpList_push _ rfl _ _ 25 rfl 3 i0 _ 1 8 Tryd.underlying25 hi hz0 hz1 hz2 rfl (by omega) wr.heap.size encI A1 L cap1 slots rfl (by exact hown1.alloc _) _ 1 1 [(k : Int)] rfl rfl (by omega) (by exact cells_new _ _ _ _ (by simp) _ rfl) encI_one (by unfold maxLen; omega) (by omega) (by have := n1.size; simp; omega) ?_; intro g3 cap2 w3 hown3 hg3 hat3 hb3 hlt3 hN3)
              have hNw := hN3 w ((hN.trans n1).alloc _) hN.size
              have hIH := IH.out (some ⟨g3, 0, none⟩) cap2 (slots ++ [(k : Int)]) w3 (by rw [HLL.out]; omega) (hRB.out.keep hNw) (by rw [HLL.out]; exact hown3.rd)
              rw [HLL.out] at hIH
              refine hIH.mono ?_
              clear hIH
              have hnew3 := hN3 wr ((n1).alloc _) (Nat.le_refl _)
              clear hN3 hown3 hown1 hg3 hat3 hb3 hlt3 n1
              rintro e w4 ⟨A4, m4, cap4, rfl, n4, ⟨ho, rfl, rfl, rfl⟩ | ⟨r, a, ho, rfl, hrd⟩⟩
              · have hneq : ∀ W, (binOp .neq 25 (.slice none 0 0) (.slice none 0 0)).run Tryd.prog W = .ok (.bool false) W := fun W => run_neq_slice_nil_any W 25 3 none 0 0 0 0 Tryd.underlying25
                have HO := Lib.hid ho
                clear ho
                go_wp2_with fail
                go_roundw
                case rel => exact ⟨k + 1, by omega, by go_num, Lib.hid (fun c hc => by
                  rcases Nat.lt_or_ge c k with h | h
                  · exact HF.out c h
                  · obtain rfl : c = k := by omega
                    rw [HC.out]; exact HO.out), hNw.trans n4⟩
                case measure => simp [intOf]; omega
              · have hneq : ∀ W, (binOp .neq 25 (.slice (some a) m4 cap4) (.slice none 0 0)).run Tryd.prog W = .ok (.bool true) W := fun W => run_neq_slice_nil_any W 25 3 (some a) m4 cap4 0 0 Tryd.underlying25
                have HO := Lib.hid ho
                have HRD := Lib.hid hrd
                clear ho hrd
                go_wp2_with fail
                go_ret
                exact ⟨_, m4, cap4, rfl, hNw.trans n4, .inr ⟨r, a, by rw [planF_succ]; exact range_findSome_some hlt HF.out (by rw [HC.out]; exact HO.out), rfl, HRD.out⟩⟩
      · obtain rfl : cnt = k := by omega
        go_wp2_with fail
        go_ret
        exact ⟨none, 0, 0, rfl, hN, .inl ⟨by rw [planF_succ]; exact range_findSome_none HF.out, rfl, rfl, rfl⟩⟩

set_option maxRecDepth 100000 in
set_option maxHeartbeats 4000000 in
theorem planFor_any (st : Int) (A : Option Addr) (n cap : Nat) (ps : List (Int × Int)) (w : World) (hn : n ≤ 100000) (hcap : n ≤ cap) (hr : Rd w 2 encP A n ps) :
    Calls Tryd.prog 35 #[.agg #[.int .i64 st, .slice A n cap]] w fun e w' => New w w' ∧
      (((netS st ps).2 ≠ 0 ∧ e = .returned (.tuple #[.slice none 0 0, .int .i64 0, .int .i64 (netS st ps).2])) ∨
       ((netS st ps).2 = 0 ∧ ∃ (A' : Option Addr) (m cap' k : Nat) (r : List Int), e = .returned (.tuple #[.slice A' m cap', .int .i64 k, .int .i64 0]) ∧ Rd w' 1 encI A' m r ∧ 1 ≤ k ∧ k ≤ st.toNat ∧
         (∀ j, 1 ≤ j → j < k → planF (maskS st.toNat ps) j st.toNat [] = none) ∧ planF (maskS st.toNat ps) k st.toNat [] = some r)) := by
  have HR := Lib.hid hr; clear hr
  by_cases hz : (netS st ps).2 = 0
  · have b1 : ((netS st ps).2 != 0) = false := by simpa using hz
    obtain ⟨q1, q2, q3, q4⟩ := netS_zero hz
    obtain ⟨s, hsx⟩ : ∃ s : Nat, st.toNat = s := ⟨_, rfl⟩
    have hs : s ≤ 8 := by omega
    have hs1 : 1 ≤ s := by omega
    have HZ := Lib.hid hz
    have HQ := Lib.hid q4
    clear q4 hz
    go_enter Tryd.func35, Tryd.ntmps35
    go_wp2_with fail
    refine (open_any st A n cap ps _ hn hcap (HR.out.keep ((New.refl _).alloc _))).mono ?_
    rintro e w1 ⟨n1, ⟨hbad, _⟩ | ⟨_, B, rfl, hown⟩⟩
    · exact absurd HZ.out hbad
    · rw [hsx] at hown ⊢
      have HRB := Lib.hid hown.rd
      have HM := Lib.hid (maskS_lt (s := s) (ps := ps) (fun p hp => by have := HQ.out p hp; omega))
      have HSX := Lib.hid hsx
      clear hown hsx
      have hN1 := hn2of n1
      clear n1
      obtain ⟨ms, hms⟩ : ∃ ms, maskS s ps = ms := ⟨_, rfl⟩
      rw [hms] at HRB HM
      have HMS := Lib.hid hms
      clear hms
      go_wp2_with fail
      go_loopw [7, 8] (fun i _ wr => ∃ k : Nat, 1 ≤ k ∧ k ≤ s ∧ i = .int .i64 k ∧ Hid (∀ j, 1 ≤ j → j < k → planF ms j s [] = none) ∧ New w wr ∧ New w1 wr) (fun i _ _ => s - (intOf i).toNat)
      case atStart => exact ⟨1, by omega, hs1, rfl, Lib.hid (fun j h1 h2 => absurd h1 (by omega)), hN1, New.refl _⟩
      case round =>
        obtain ⟨k, hk1, hk, rfl, HF, hN, hN2⟩ := hrel
        go_wp2_with fail
        have hpl := planned_any ms s k hs hs1 (by omega) HM.out B s none 0 [] wr (by simp) (HRB.out.keep hN2) (Rd.nil _ _ _ _)
        refine hpl.mono ?_
        clear hpl
        rintro e w4 ⟨A4, m4, cap4, rfl, n4, ⟨ho, rfl, rfl, rfl⟩ | ⟨r, a, ho, rfl, hrd⟩⟩
        · have hks : k < s := by
            rcases Nat.lt_or_ge k s with h | h
            · exact h
            · obtain rfl : k = s := by omega
              have := planF_isSome ms k k 0 (by omega)
              rw [show (List.range 0).map (fun (i : Nat) => (i : Int)) = [] from rfl, ho] at this
              cases this
          have hneq : ∀ W, (binOp .neq 25 (.slice none 0 0) (.slice none 0 0)).run Tryd.prog W = .ok (.bool false) W := fun W => run_neq_slice_nil_any W 25 3 none 0 0 0 0 Tryd.underlying25
          have HO := Lib.hid ho
          clear ho
          go_wp2_with fail
          go_roundw
          case rel => exact ⟨k + 1, by omega, by omega, by go_num, Lib.hid (fun j h1 h2 => by
            rcases Nat.lt_or_ge j k with h | h
            · exact HF.out j h1 h
            · obtain rfl : j = k := by omega
              exact HO.out), hN.trans n4, hN2.trans n4⟩
          case measure => simp [intOf]; omega
        · have hneq : ∀ W, (binOp .neq 25 (.slice (some a) m4 cap4) (.slice none 0 0)).run Tryd.prog W = .ok (.bool true) W := fun W => run_neq_slice_nil_any W 25 3 (some a) m4 cap4 0 0 Tryd.underlying25
          have HO := Lib.hid ho
          have HRD := Lib.hid hrd
          clear ho hrd
          go_wp2_with fail
          go_ret3
          refine ⟨hN.trans n4, .inr ⟨HZ.out, some a, m4, cap4, k, r, rfl, HRD.out, hk1, by rw [HSX.out]; exact hk, by rw [HSX.out, HMS.out]; exact HF.out, by rw [HSX.out, HMS.out]; exact HO.out⟩⟩
  · have b1 : ((netS st ps).2 != 0) = true := by simpa using hz
    have HZ := Lib.hid hz
    clear hz
    go_enter Tryd.func35, Tryd.ntmps35
    go_wp2_with fail
    refine (open_any st A n cap ps _ hn hcap (HR.out.keep ((New.refl _).alloc _))).mono ?_
    rintro e w1 ⟨n1, ⟨_, rfl⟩ | ⟨hbad, _⟩⟩
    · go_wp2_with fail
      go_ret3
      exact ⟨hn2of n1, .inl ⟨HZ.out, rfl⟩⟩
    · exact absurd hbad HZ.out
end Go.Proofs.YtkahjpbnlclhhaaDoor

namespace Go.Proofs.YtkahjpbnlclhhaaDoor
open Go.RowKit Go.Sky

set_option maxHeartbeats 400000 in
theorem CheckOf_any (s : ByteArray) (w : World) (hs : s.size ≤ 3000) :
    Calls Tryd.prog 34 #[.string s] w fun e w' => e = .returned (.tuple #[.int .i64 (crcS s.data.toList), .int .i64 0]) ∧ New w w' := by
  have h1 : ¬ (3000 : Int) < (s.size : Int) := by omega
  go_enter Tryd.func34, Tryd.ntmps34
  go_wp2_with (go_at_call 65; refine (check_any s _ (by omega)).mono ?_; rintro e w1 ⟨rfl, hN1⟩)
  go_ret2
  exact ⟨rfl, hN1⟩

theorem Rd_new {α : Type} {k : Nat} {enc : α → List Value} (hk : ∀ x, (enc x).length = k) (w : World) (cs : Array Value) (t : TypeId) (B n : Nat) (xs : List α) (hB : B = w.heap.size) (hl : xs.length = n) (hf : cs.toList = xs.flatMap enc) :
    Rd (w.alloc (.cells cs t)) k enc (some ⟨B, 0, none⟩) n xs := by
  subst hB
  refine ⟨hl, fun _ => ⟨_, _, rfl, by simp, fun i x hx j u hu => ?_⟩⟩
  rw [World.cell?_alloc_at _ _ _ _ rfl, Nat.zero_add]
  have h := flat_at hk xs i x hx j u hu
  rw [← hf] at h
  simpa using h
theorem encX_len (x : Exch) : (encX x).length = 3 := rfl
theorem encP_len (x : Int × Int) : (encP x).length = 2 := rfl

set_option maxHeartbeats 400000 in
theorem Exchanges_any (w : World) :
    Calls Tryd.prog 33 #[] w fun e w' => e = .returned (.slice (some ⟨w.heap.size, 0, none⟩) 2 2) ∧ Rd w' 3 encX (some ⟨w.heap.size, 0, none⟩) 2 [⟨100, 505, 110⟩, ⟨200, 600, 204⟩] ∧ New w w' := by
  go_enter Tryd.func33, Tryd.ntmps33
  go_wp2
  go_ret
  exact ⟨rfl, Rd_new encX_len _ _ _ _ _ _ rfl rfl rfl, (New.refl _).alloc _⟩

set_option maxHeartbeats 400000 in
theorem Net_any (w : World) :
    Calls Tryd.prog 36 #[] w fun e w' => ∃ g, e = .returned (.agg #[.int .i64 4, .slice (some ⟨g, 0, none⟩) 4 4]) ∧ Rd w' 2 encP (some ⟨g, 0, none⟩) 4 [(0, 1), (1, 2), (2, 3), (0, 3)] ∧ New w w' := by
  go_enter Tryd.func36, Tryd.ntmps36
  go_wp2
  exact bodyPost_ret (v := .agg #[.int .i64 4, .slice (some ⟨w.heap.size + 1, 0, none⟩) 4 4]) (by simp [results, Tryd.results36, go_sem]) rfl ⟨_, rfl, Rd_new encP_len _ _ _ _ _ _ (by simp) rfl rfl, ((New.refl _).alloc _).alloc _⟩

theorem eql_rng_d (n : Nat) (a b c d : Int) (W : World) : (Op.equalIn (n + 2) 71 (.agg #[.int .i64 a, .int .i64 b]) (.agg #[.int .i64 c, .int .i64 d])).run Tryd.prog W = .ok (a == c && b == d) W := by
  have u := Tryd.underlying71
  have u3 := Tryd.underlying3
  have z3 := Tryd.sizeOf3
  have a3 := Tryd.isAgg3
  rw [Op.equalIn]
  by_cases h1 : a = c <;> by_cases h2 : b = d
  all_goals
    simp [run_underlying u, part, go_sem, h1, h2, a3, u3]
theorem eql_rng (a b c d : Int) (W : World) : (Op.equalIn 10000 71 (.agg #[.int .i64 a, .int .i64 b]) (.agg #[.int .i64 c, .int .i64 d])).run Tryd.prog W = .ok (a == c && b == d) W := eql_rng_d 9998 a b c d W
theorem guard_rng : (Tryd.prog).eqGuardType (Tryd.prog).depth 71 = false := by kernel_rfl

theorem awake_off : offAtS [⟨100, 505, 110⟩, ⟨200, 600, 204⟩] 0 300 = ((396, 400), 0) := by decide
theorem awake_way : packWay [5, 5, 5, 5, 5, 5, 9] = 2 := by decide
theorem awake_nums : packNums [5, 5, 5, 5, 5, 5, 9] = [5, 6, 9, 1] := by decide
theorem awake_ser : serE [5, 5, 5, 5, 5, 5, 9] = 0 := by decide
theorem awake_crc : crcS [0] = 57840 := by decide +kernel
theorem awake_net : netS 4 [(0, 1), (1, 2), (2, 3), (0, 3)] = (0, 0) := by decide
theorem awake_one : planF (maskS 4 [(0, 1), (1, 2), (2, 3), (0, 3)]) 1 4 [] = none := by decide
theorem awake_two : planF (maskS 4 [(0, 1), (1, 2), (2, 3), (0, 3)]) 2 4 [] = some [0, 1, 0, 1] := by decide +kernel

set_option maxRecDepth 100000 in
set_option maxHeartbeats 2000000 in
theorem awake_any (w : World) : Calls Tryd.prog 6 #[] w fun e w' => e = .returned (.bool true) ∧ New w w' := by
  go_enter Tryd.func6, Tryd.ntmps6
  go_wp2_with fail
  refine (Exchanges_any _).mono ?_
  rintro e w1 ⟨rfl, r1, n1⟩
  go_wp2_with fail
  refine (OffsetAt_any _ 2 2 _ 0 300 _ (by omega) r1).mono ?_
  rintro e w2 ⟨rfl, n2⟩
  rw [awake_off]
  go_wp2_with fail
  refine (Packed_any _ 7 7 [5, 5, 5, 5, 5, 5, 9] _ (by omega) (by exact Rd_new encI_len _ _ _ _ _ _ (by simp) rfl rfl)).mono ?_
  rintro e w3 ⟨n3, ⟨hbad, _⟩ | ⟨_, A3, m3, c3, rfl, o3⟩⟩
  · exact absurd awake_ser hbad
  have r3 := o3.rd
  clear o3
  rw [awake_way, awake_nums] at *
  have bR := ((Bx.mk w2 71 #[.int .i64 396, .int .i64 400]).alloc _).keep n3
  have HM3 := Lib.hid r3.len
  obtain rfl : 4 = m3 := HM3.out
  go_wp2_with fail
  refine (CheckOf_any _ _ (by decide)).mono ?_
  rintro e w4 ⟨rfl, n4⟩
  have bP := (Bx.mk w3 42 #[.int .i64 2, .slice A3 4 c3]).keep n4
  have bR := (bR.alloc (.cells #[.int .i64 2, .slice A3 4 c3] 42)).keep n4
  have r3 := (r3.keep ((New.refl _).alloc (.cells #[.int .i64 2, .slice A3 4 c3] 42))).keep n4
  rw [show crcS (ByteArray.mk #[0]).data.toList = 57840 from awake_crc]
  go_wp2_with fail
  refine (Net_any _).mono ?_
  rintro e w5 ⟨g5, rfl, r5, n5⟩
  go_wp2_with fail
  refine (planFor_any _ _ 4 4 _ _ (by omega) (by omega) r5).mono ?_
  rintro e w6 ⟨n6, ⟨hbad, _⟩ | ⟨_, A6, m6, c6, k6, r, rfl, r6, hk1, hk2, hno, hyes⟩⟩
  · exact absurd (by rw [awake_net]) hbad
  have hk : 2 = k6 := by
    rcases Nat.lt_or_ge k6 2 with h | h
    · obtain rfl : k6 = 1 := by omega
      rw [show (4 : Int).toNat = 4 from rfl, awake_one] at hyes
      cases hyes
    · rcases Nat.lt_or_ge 2 k6 with h2 | h2
      · have := hno 2 (by omega) h2
        rw [show (4 : Int).toNat = 4 from rfl, awake_two] at this
        cases this
      · omega
  subst hk
  rw [show (4 : Int).toNat = 4 from rfl, awake_two] at hyes
  injection hyes with hyes
  subst hyes
  have HM6 := Lib.hid r6.len
  obtain rfl : 4 = m6 := HM6.out
  clear hno hk1 hk2
  have bP := bP.keep (n5.trans n6)
  have bR := bR.keep (n5.trans n6)
  have r3 := r3.keep (n5.trans n6)
  have e1 := eql_rng
  have e2 := guard_rng
  have cR0 : w6.cell? _ = some _ := bR.cell 0
  have cR1 : w6.cell? _ = some _ := bR.cell 1
  have cP0 : w6.cell? _ = some _ := bP.cell 0
  have cP1 : w6.cell? _ = some _ := bP.cell 1
  have lR := bR.lt
  have lP := bP.lt
  have hN6 : New w w6 := ((((((n1.trans n2).alloc _).alloc _).trans n3).alloc _).trans n4).trans (n5.trans n6)
  clear r1 n1 n2 n3 n4 n5 n6
  go_wp2_with fail
  refine (samePacked_any 2 2 A3 _ 4 4 c3 4 [5, 6, 9, 1] [5, 6, 9, 1] _ (by omega) (by omega) (by exact r3.keep ((New.refl _).alloc _)) (by exact Rd_new encI_len _ _ _ _ _ _ rfl rfl rfl)).mono ?_
  rintro e w7 ⟨rfl, n7⟩
  have r6 := (r6.keep ((New.refl _).alloc _)).keep n7
  go_wp2_with fail
  refine (ints_is true A6 _ 4 4 c6 4 [0, 1, 0, 1] [0, 1, 0, 1] _ (by omega) (by omega) (by exact r6.keep ((New.refl _).alloc _)) (by exact Rd_new encI_len _ _ _ _ _ _ rfl rfl rfl) rfl).mono ?_
  rintro e w8 ⟨rfl, n8⟩
  go_wp2_with fail
  go_ret
  exact ⟨rfl, (((hN6.alloc _).trans n7).alloc _).trans n8⟩
end Go.Proofs.YtkahjpbnlclhhaaDoor

namespace Go.Proofs.YtkahjpbnlclhhaaDoor
open Go.RowKit Go.Sky

theorem bWithin_any (n lo hi : Int) (w : World) : Calls Tryd.prog 17 #[.int .i64 n, .int .i64 lo, .int .i64 hi] w fun e w' => e = .returned (.bool (inR n lo hi)) ∧ w = w' := by
  by_cases h1 : lo ≤ n
  · go_enter Tryd.func17, Tryd.ntmps17
    go_wp2
    go_ret
    exact ⟨by simp [inR, h1], rfl⟩
  · go_enter Tryd.func17, Tryd.ntmps17
    go_wp2
    go_ret
    exact ⟨by simp only [inR]; simp; omega, rfl⟩
theorem bWithin_is (n lo hi : Int) (c : Bool) (w : World) (h : inR n lo hi = c) : Calls Tryd.prog 17 #[.int .i64 n, .int .i64 lo, .int .i64 hi] w fun e w' => e = .returned (.bool c) ∧ w = w' := h ▸ bWithin_any n lo hi w

/-! ### Go's division that rounds to zero, and the floor -/
theorem tmod_bd (n : Int) {b : Int} (hb : 0 < b) : -b < n.tmod b ∧ n.tmod b < b := ⟨Int.lt_tmod_of_pos n hb, Int.tmod_lt_of_pos n hb⟩
theorem emod_of_tmod (n : Int) {b : Int} (hb : 0 < b) : n % b = if n.tmod b < 0 then n.tmod b + b else n.tmod b := by
  obtain ⟨h1, h2⟩ := tmod_bd n hb
  have h3 := Int.mul_tdiv_add_tmod n b
  have h4 : n % b = (n.tmod b) % b := by
    conv => lhs; rw [← h3]
    rw [Int.add_comm, Int.add_mul_emod_self_left]
  rw [h4]
  generalize n.tmod b = r at *
  split
  · rw [← Int.add_emod_right]
    exact Int.emod_eq_of_lt (by omega) (by omega)
  · exact Int.emod_eq_of_lt (by omega) (by omega)
theorem ediv_of_tdiv (n : Int) {b : Int} (hb : 0 < b) : n / b = if n.tmod b < 0 then n.tdiv b - 1 else n.tdiv b := by
  have h1 := emod_of_tmod n hb
  have h3 := Int.mul_tdiv_add_tmod n b
  have h4 := Int.mul_ediv_add_emod n b
  split
  · rename_i h
    rw [if_pos h] at h1
    have h5 : b * (n / b) = b * (n.tdiv b - 1) := by rw [Int.mul_sub]; omega
    exact Int.eq_of_mul_eq_mul_left (by omega) h5
  · rename_i h
    rw [if_neg h] at h1
    have h5 : b * (n / b) = b * (n.tdiv b) := by omega
    exact Int.eq_of_mul_eq_mul_left (by omega) h5

set_option maxHeartbeats 400000 in
theorem Mod_any (n b : Int) (w : World) (hb : 1 ≤ b) (hb1 : b ≤ 1000000000) : Calls Tryd.prog 23 #[.int .i64 n, .int .i64 b] w fun e w' => e = .returned (.int .i64 (n % b)) ∧ w = w' := by
  obtain ⟨h1, h2⟩ := tmod_bd n (b := b) (by omega)
  have HE := Lib.hid (emod_of_tmod n (b := b) (by omega))
  have h3 : -1000000000 ≤ n.tmod b := by omega
  have h4 : n.tmod b ≤ 1000000000 := by omega
  have hb0 : (b == 0) = false := by simp; omega
  by_cases hneg : n.tmod b < 0
  · have HV := Lib.hid (show n % b = n.tmod b + b by rw [HE.out, if_pos hneg])
    go_enter Tryd.func23, Tryd.ntmps23
    go_wp2
    go_ret
    exact ⟨by rw [HV.out]; rfl, rfl⟩
  · have HV := Lib.hid (show n % b = n.tmod b by rw [HE.out, if_neg hneg])
    go_enter Tryd.func23, Tryd.ntmps23
    go_wp2
    go_ret
    exact ⟨by rw [HV.out]; rfl, rfl⟩

set_option maxHeartbeats 400000 in
theorem Floor_any (n b : Int) (w : World) (hb : 1 ≤ b) (hb1 : b ≤ 1000000000) (hn : -4000000000000000 ≤ n) (hn1 : n ≤ 4000000000000000) :
    Calls Tryd.prog 93 #[.int .i64 n, .int .i64 b] w fun e w' => e = .returned (.int .i64 (n / b)) ∧ w = w' := by
  obtain ⟨h1, h2⟩ := tmod_bd n (b := b) (by omega)
  have HE := Lib.hid (ediv_of_tdiv n (b := b) (by omega))
  have h3 : -1000000000 ≤ n.tmod b := by omega
  have h4 : n.tmod b ≤ 1000000000 := by omega
  have hq : -4000000000000000 ≤ n / b ∧ n / b ≤ 4000000000000000 := by
    constructor
    · exact Int.le_ediv_of_mul_le (by omega) (by have := Int.mul_le_mul_of_nonpos_left (a := -4000000000000000) (b := b) (c := 1) (by omega) (by omega); omega)
    · have := Int.ediv_le_ediv (c := b) (by omega) hn1
      have h9 : (4000000000000000 : Int) / b ≤ 4000000000000000 := Int.ediv_le_self _ (by omega)
      omega
  have hq2 : -4000000000000000 ≤ n.tdiv b ∧ n.tdiv b ≤ 4000000000000001 := by
    have h := HE.out
    split at h <;> omega
  obtain ⟨k1, k2⟩ := hq2
  clear hq
  have hb0 : (b == 0) = false := by simp; omega
  by_cases hneg : n.tmod b < 0
  · have HV := Lib.hid (show n / b = n.tdiv b - 1 by rw [HE.out, if_pos hneg])
    go_enter Tryd.func93, Tryd.ntmps93
    go_wp2
    go_ret
    exact ⟨by rw [HV.out]; rfl, rfl⟩
  · have HV := Lib.hid (show n / b = n.tdiv b by rw [HE.out, if_neg hneg])
    go_enter Tryd.func93, Tryd.ntmps93
    go_wp2
    go_ret
    exact ⟨by rw [HV.out]; rfl, rfl⟩

/-- The quotient rounded up, as the reference has it. -/
def ceilI (n b : Int) : Int := -((-n) / b)
theorem ceil_up {n b : Int} (hb : 0 < b) : ceilI n b = upS n b := by
  unfold ceilI upS
  have h1 := Int.mul_ediv_add_emod (-n) b
  have h2 := Int.emod_nonneg (-n) (show b ≠ 0 by omega)
  have h3 := Int.emod_lt_of_pos (-n) hb
  have h4 := Int.mul_ediv_add_emod (n + b - 1) b
  have h5 := Int.emod_nonneg (n + b - 1) (show b ≠ 0 by omega)
  have h6 := Int.emod_lt_of_pos (n + b - 1) hb
  generalize (-n) / b = q at *
  generalize (n + b - 1) / b = r at *
  generalize (-n) % b = x at *
  generalize (n + b - 1) % b = y at *
  have h7 : b * (q + r) = b - 1 - x - y := by rw [Int.mul_add]; omega
  have h8 : -b < b * (q + r) := by omega
  have h9 : b * (q + r) < b := by omega
  have h10 : q + r = 0 := by
    rcases Int.lt_trichotomy (q + r) 0 with h | h | h
    · have := Int.mul_le_mul_of_nonneg_left (show q + r ≤ -1 by omega) (show 0 ≤ b by omega)
      omega
    · exact h
    · have := Int.mul_le_mul_of_nonneg_left (show 1 ≤ q + r by omega) (show 0 ≤ b by omega)
      omega
  omega

set_option maxHeartbeats 400000 in
theorem Ceil_any (n b : Int) (w : World) (hb : 1 ≤ b) (hb1 : b ≤ 1000000000) (hn : -4000000000000000 ≤ n) (hn1 : n ≤ 4000000000000000) :
    Calls Tryd.prog 76 #[.int .i64 n, .int .i64 b] w fun e w' => e = .returned (.int .i64 (ceilI n b)) ∧ w = w' := by
  have hq : -4000000000000001 ≤ (-n) / b ∧ (-n) / b ≤ 4000000000000001 := by
    constructor
    · exact Int.le_ediv_of_mul_le (by omega) (by have := Int.mul_le_mul_of_nonpos_left (a := -4000000000000001) (b := b) (c := 1) (by omega) (by omega); omega)
    · have := Int.ediv_le_ediv (c := b) (by omega) (show -n ≤ 4000000000000000 by omega)
      have h9 : (4000000000000000 : Int) / b ≤ 4000000000000000 := Int.ediv_le_self _ (by omega)
      omega
  obtain ⟨k1, k2⟩ := hq
  go_enter Tryd.func76, Tryd.ntmps76
  go_wp2_with (go_at_call 93; refine (Floor_any _ _ _ hb hb1 (by omega) (by omega)).mono ?_; rintro e w' ⟨rfl, rfl⟩)
  go_ret
  exact ⟨rfl, rfl⟩

theorem Size_any (n : Int) (w : World) (hn : -4000000000000000 ≤ n) (hn1 : n ≤ 4000000000000000) :
    Calls Tryd.prog 51 #[.int .i64 n] w fun e w' => e = .returned (.int .i64 (max n (-n))) ∧ w = w' := by
  by_cases h : 0 ≤ n
  · have HV := Lib.hid (show max n (-n) = n by omega)
    have h2 : -n ≤ n := by omega
    go_enter Tryd.func51, Tryd.ntmps51
    go_wp2
    go_ret
    exact ⟨by rw [HV.out]; rfl, rfl⟩
  · have HV := Lib.hid (show max n (-n) = -n by omega)
    have h2 : ¬ -n ≤ n := by omega
    go_enter Tryd.func51, Tryd.ntmps51
    go_wp2
    go_ret
    exact ⟨by rw [HV.out]; rfl, rfl⟩
end Go.Proofs.YtkahjpbnlclhhaaDoor

namespace Go.Proofs.YtkahjpbnlclhhaaDoor
open Go.RowKit Go.Sky

theorem bit_and_nat (a b : Nat) (ha : a < 9223372036854775808) (hb : b < 9223372036854775808) : bits .and .i64 (a : Int) (b : Int) = ((a &&& b : Nat) : Int) := by
  have hx : a &&& b ≤ a := Nat.and_le_left
  show IntKind.i64.wrap ((BitVec.ofInt 64 (a : Int) &&& BitVec.ofInt 64 (b : Int)).toNat : Int) = _
  rw [BitVec.toNat_and, ofInt_i64 a ha, ofInt_i64 b hb, IntKind.wrap_i64]
  omega
theorem bit_one {p k : Nat} (hp : p < 65536) : (bits .and .i64 ((p : Int) / 2 ^ k) 1 == 1) = p.testBit k := by
  have hdiv : (p : Int) / 2 ^ k = ((p / 2 ^ k : Nat) : Int) := by simp
  have hle : p / 2 ^ k ≤ p := Nat.div_le_self _ _
  rw [hdiv, Nat.testBit_eq_decide_div_mod_eq]
  generalize p / 2 ^ k = q at *
  have e := bit_and_nat q 1 (by omega) (by omega)
  rw [Nat.and_one_is_mod] at e
  rw [show ((1 : Nat) : Int) = 1 from rfl] at e
  rw [e]
  rw [Bool.eq_iff_iff]
  simp
  omega
theorem bit_zero {p k : Nat} (hp : p < 65536) : (bits .and .i64 ((p : Int) / 2 ^ k) 1 == 0) = !p.testBit k := by
  have hdiv : (p : Int) / 2 ^ k = ((p / 2 ^ k : Nat) : Int) := by simp
  have hle : p / 2 ^ k ≤ p := Nat.div_le_self _ _
  rw [hdiv, Nat.testBit_eq_decide_div_mod_eq]
  generalize p / 2 ^ k = q at *
  have e := bit_and_nat q 1 (by omega) (by omega)
  rw [Nat.and_one_is_mod] at e
  rw [show ((1 : Nat) : Int) = 1 from rfl] at e
  rw [e]
  rw [Bool.eq_iff_iff]
  simp
  omega

end Go.Proofs.YtkahjpbnlclhhaaDoor

namespace Go.Proofs.YtkahjpbnlclhhaaDoor
open Go.RowKit Go.Sky

set_option maxRecDepth 100000 in
set_option maxHeartbeats 400000 in
theorem idxFuncM (g : Nat) (cb : Array Value) (p : Int → Bool) (A : Option Addr) (n cap : Nat) (xs : List Int) (w : World) (hn : n ≤ 1000000) (hr : Rd w 1 encI A n xs) (eg : ∀ (args : Array Value) (W : World), (callFunc g args).run Tryd.prog W = .ok (.enter g args) W)
    (hp : ∀ x, x ∈ xs → ∀ W, New w W → Calls Tryd.prog g (#[.int .i64 x] ++ cb) W fun e w' => e = .returned (.bool (p x)) ∧ New W w') :
    Calls Tryd.prog 92 #[.slice A n cap, .func (.func g) #[] cb] w fun e w' => e = .returned (.int .i64 (idxS p xs)) ∧ New w w' := by
  have HR := Lib.hid hr; clear hr
  have HP := Lib.hid hp; clear hp
  go_enter Tryd.func92, Tryd.ntmps92
  go_wp2
  go_loopw [5, 8] (fun _ i wr => ∃ k : Nat, k ≤ n ∧ i = .int .i64 k ∧ Hid (∀ j x, j < k → xs[j]? = some x → p x = false) ∧ New w wr) (fun _ i _ => n - (intOf i).toNat)
  case atStart => exact ⟨0, by omega, rfl, (fun j x hj => absurd hj (by omega)), New.refl _⟩
  case round =>
    obtain ⟨k, hk, rfl, HF, hN⟩ := hrel
    by_cases hlt : k < n
    · obtain ⟨b, o, x, rfl, hb, hx, hc⟩ := (HR.out.keep hN).at_ hlt
      have g0 := hc 0 _ rfl
      simp only [Nat.add_zero, Nat.mul_one] at g0
      have HX := Lib.hid hx
      clear hx hc
      obtain ⟨q, hq⟩ : ∃ q, p x = q := ⟨_, rfl⟩
      have HQ := Lib.hid hq
      cases q
      all_goals
        go_wp2_with fail
        refine (HP.out x (List.mem_of_getElem? HX.out) _ hN).mono ?_
        rintro e w1 ⟨he, hn1⟩
        rw [HQ.out] at he
        subst he
        clear hq
      · go_wp2
        go_roundw
        case rel => exact ⟨k + 1, by omega, by go_num, fun j y hj hy => by
          rcases Nat.lt_or_ge j k with h | h
          · exact HF.out j y h hy
          · obtain rfl : j = k := by omega
            have hxy := HX.out
            rw [hy] at hxy
            injection hxy with hxy
            rw [hxy]
            exact HQ.out, hN.trans hn1⟩
        case measure => simp [intOf]; omega
      · go_wp2
        go_ret
        exact ⟨by rw [idxS_hit p xs k x HX.out HQ.out HF.out]; rfl, hN.trans hn1⟩
    · go_wp2
      go_ret
      exact ⟨by rw [idxS_miss p xs n HR.out.len (fun j y hj hy => HF.out j y (by omega) hy)]; rfl, hN⟩

set_option maxRecDepth 100000 in
set_option maxHeartbeats 400000 in
theorem containsFuncM (g : Nat) (cb : Array Value) (p : Int → Bool) (A : Option Addr) (n cap : Nat) (xs : List Int) (w : World) (hn : n ≤ 1000000) (hr : Rd w 1 encI A n xs) (eg : ∀ (args : Array Value) (W : World), (callFunc g args).run Tryd.prog W = .ok (.enter g args) W)
    (hp : ∀ x, x ∈ xs → ∀ W, New w W → Calls Tryd.prog g (#[.int .i64 x] ++ cb) W fun e w' => e = .returned (.bool (p x)) ∧ New W w') :
    Calls Tryd.prog 74 #[.slice A n cap, .func (.func g) #[] cb] w fun e w' => e = .returned (.bool (xs.any p)) ∧ New w w' := by
  have HR := Lib.hid hr; clear hr
  have HP := Lib.hid hp; clear hp
  have HG := Lib.hid eg; clear eg
  have HA := Lib.hid (idxS_any p xs)
  go_enter Tryd.func74, Tryd.ntmps74
  go_wp2_with (go_at_call 92; refine (idxFuncM g cb p A n cap xs _ hn HR.out HG.out HP.out).mono ?_; rintro e w1 ⟨rfl, hn1⟩)
  go_ret
  exact ⟨by rw [← HA.out]; rfl, hn1⟩

theorem grp_stay {ms : List Nat} {set k : Nat} (h : grpTo ms set k = none) : ∀ d, grpTo ms set (k + d) = none
  | 0 => h
  | d + 1 => by rw [← Nat.add_assoc]; exact grp_none (grp_stay h d)
theorem grpS_none {ms : List Nat} {set k s : Nat} (h : grpTo ms set k = none) (hk : k ≤ s) : grpS ms set s = [] := by
  obtain ⟨d, rfl⟩ := Nat.exists_eq_add_of_le hk
  unfold grpS
  rw [grp_stay h d]
  rfl
theorem grp_lt {ms : List Nat} {set i : Nat} {out : List Int} (h : grpTo ms set i = some out) : ∀ x ∈ out, 0 ≤ x ∧ x < (i : Int) := by
  rcases grp_mem ms set i with ⟨_, h2⟩ | ⟨_, h2⟩
  · rw [h2] at h; injection h with h; rw [← h]; exact memTo_lt set i
  · rw [h2] at h; cases h
theorem grp_len {ms : List Nat} {set i : Nat} {out : List Int} (h : grpTo ms set i = some out) : out.length ≤ i := by
  rcases grp_mem ms set i with ⟨_, h2⟩ | ⟨_, h2⟩
  · rw [h2] at h; injection h with h; rw [← h]; exact memTo_len set i
  · rw [h2] at h; cases h
theorem grpS_len (ms : List Nat) (set s : Nat) : (grpS ms set s).length ≤ s := by
  unfold grpS
  cases h : grpTo ms set s with
  | none => simp
  | some out => exact grp_len h

theorem better_of {l b : List Int} {m2 m : Nat} (hl : l.length = m2) (hb : b.length = m) : better l b = (decide (m < m2) || (decide (m2 = m) && decide (lexC l b < 0))) := by
  unfold better; rw [hl, hb]
theorem best_take {ms : List Nat} {s N m2 m : Nat} (hl : (grpS ms N s).length = m2) (hb : (bestTo ms s N).length = m) (h : m < m2 ∨ (m2 = m ∧ lexC (grpS ms N s) (bestTo ms s N) < 0)) : bestTo ms s (N + 1) = grpS ms N s := by
  rw [best_succ, better_of hl hb, if_pos]
  rcases h with h | ⟨h1, h2⟩
  · simp [h]
  · simp [h1, h2]
theorem best_keep {ms : List Nat} {s N m2 m : Nat} (hl : (grpS ms N s).length = m2) (hb : (bestTo ms s N).length = m) (h : ¬ m < m2) (h' : m2 = m → ¬ lexC (grpS ms N s) (bestTo ms s N) < 0) : bestTo ms s (N + 1) = bestTo ms s N := by
  rw [best_succ, better_of hl hb, if_neg]
  by_cases h2 : m2 = m
  · have := h' h2
    simp [h, h2, this]
  · simp [h, h2]

end Go.Proofs.YtkahjpbnlclhhaaDoor

namespace Go.Proofs.YtkahjpbnlclhhaaDoor
open Go.RowKit Go.Sky

theorem idxZ_S {α : Type} (p : α → Bool) (xs : List α) : idxZ p xs = idxS p xs := rfl

/-- What CheckPlan answers: the net's error, or the plan's. -/
def chkF (st : Int) (ps : List (Int × Int)) (sl : List Int) : Int × Int := if (netS st ps).2 ≠ 0 then (0, (netS st ps).2) else chkS st ps sl

end Go.Proofs.YtkahjpbnlclhhaaDoor
