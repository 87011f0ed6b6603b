/- Contracts: CheckOf, Exchanges, Net, awake. -/
import Derived.Test.YtjpkcmlepjbamaaW4
import Derived.Test.YtjpkcmlepjbamaaW9
import Derived.Test.YtjpkcmlepjbamaaW10
import Derived.Test.YtjpkcmlepjbamaaW14
namespace Go.Proofs.Ytjpkcmlepjbamaa
open Go.RowKit Go.Sky

set_option maxHeartbeats 400000 in
theorem CheckOf_any (s : ByteArray) (w : World) (hs : s.size ≤ 3000) :
    Calls Try.prog 19 #[.string s] w fun e w' => e = .returned (.tuple #[.int .i64 (crcS s.data.toList), .int .i64 0]) ∧ New w w' := by
  have h1 : ¬ (3000 : Int) < (s.size : Int) := by omega
  go_enter Try.func19, Try.ntmps19
  go_wp2_with (go_at_call 80; refine (check_any s _ (by omega)).mono ?_; rintro e w1 ⟨rfl, hN1⟩)
  go_ret2
  exact ⟨rfl, hN1⟩

theorem Rd_new {α : Type} {k : Nat} {enc : α → List Value} (hk : ∀ x, (enc x).length = k) (w : World) (cs : Array Value) (t : TypeId) (B n : Nat) (xs : List α) (hB : B = w.heap.size) (hl : xs.length = n) (hf : cs.toList = xs.flatMap enc) :
    Rd (w.alloc (.cells cs t)) k enc (some ⟨B, 0, none⟩) n xs := by
  subst hB
  refine ⟨hl, fun _ => ⟨_, _, rfl, by simp, fun i x hx j u hu => ?_⟩⟩
  rw [World.cell?_alloc_at _ _ _ _ rfl, Nat.zero_add]
  have h := flat_at hk xs i x hx j u hu
  rw [← hf] at h
  simpa using h
theorem encX_len (x : Exch) : (encX x).length = 3 := rfl
theorem encP_len (x : Int × Int) : (encP x).length = 2 := rfl

set_option maxHeartbeats 400000 in
theorem Exchanges_any (w : World) :
    Calls Try.prog 78 #[] w fun e w' => e = .returned (.slice (some ⟨w.heap.size, 0, none⟩) 2 2) ∧ Rd w' 3 encX (some ⟨w.heap.size, 0, none⟩) 2 [⟨100, 505, 110⟩, ⟨200, 600, 204⟩] ∧ New w w' := by
  go_enter Try.func78, Try.ntmps78
  go_wp2
  go_ret
  exact ⟨rfl, Rd_new encX_len _ _ _ _ _ _ rfl rfl rfl, (New.refl _).alloc _⟩

set_option maxHeartbeats 400000 in
theorem Net_any (w : World) :
    Calls Try.prog 79 #[] w fun e w' => ∃ g, e = .returned (.agg #[.int .i64 4, .slice (some ⟨g, 0, none⟩) 4 4]) ∧ Rd w' 2 encP (some ⟨g, 0, none⟩) 4 [(0, 1), (1, 2), (2, 3), (0, 3)] ∧ New w w' := by
  go_enter Try.func79, Try.ntmps79
  go_wp2
  exact bodyPost_ret (v := .agg #[.int .i64 4, .slice (some ⟨w.heap.size + 1, 0, none⟩) 4 4]) (by simp [results, Try.results79, go_sem]) rfl ⟨_, rfl, Rd_new encP_len _ _ _ _ _ _ (by simp) rfl rfl, ((New.refl _).alloc _).alloc _⟩

theorem eql_rng_d (n : Nat) (a b c d : Int) (W : World) : (Op.equalIn (n + 2) 38 (.agg #[.int .i64 a, .int .i64 b]) (.agg #[.int .i64 c, .int .i64 d])).run Try.prog W = .ok (a == c && b == d) W := by
  have u := Try.underlying38
  have u3 := Try.underlying3
  have z3 := Try.sizeOf3
  have a3 := Try.isAgg3
  rw [Op.equalIn]
  by_cases h1 : a = c <;> by_cases h2 : b = d
  all_goals
    simp [run_underlying u, part, go_sem, h1, h2, a3, u3]
theorem eql_rng (a b c d : Int) (W : World) : (Op.equalIn 10000 38 (.agg #[.int .i64 a, .int .i64 b]) (.agg #[.int .i64 c, .int .i64 d])).run Try.prog W = .ok (a == c && b == d) W := eql_rng_d 9998 a b c d W
theorem guard_rng : (Try.prog).eqGuardType (Try.prog).depth 38 = false := by kernel_rfl

theorem awake_off : offAtS [⟨100, 505, 110⟩, ⟨200, 600, 204⟩] 0 300 = ((396, 400), 0) := by decide
theorem awake_way : packWay [5, 5, 5, 5, 5, 5, 9] = 2 := by decide
theorem awake_nums : packNums [5, 5, 5, 5, 5, 5, 9] = [5, 6, 9, 1] := by decide
theorem awake_ser : serE [5, 5, 5, 5, 5, 5, 9] = 0 := by decide
theorem awake_crc : crcS [0] = 57840 := by decide +kernel
theorem awake_net : netS 4 [(0, 1), (1, 2), (2, 3), (0, 3)] = (0, 0) := by decide
theorem awake_one : planF (maskS 4 [(0, 1), (1, 2), (2, 3), (0, 3)]) 1 4 [] = none := by decide
theorem awake_two : planF (maskS 4 [(0, 1), (1, 2), (2, 3), (0, 3)]) 2 4 [] = some [0, 1, 0, 1] := by decide +kernel

set_option maxRecDepth 100000 in
set_option maxHeartbeats 2000000 in
theorem awake_any (w : World) : Calls Try.prog 17 #[] w fun e w' => e = .returned (.bool true) ∧ New w w' := by
  go_enter Try.func17, Try.ntmps17
  go_wp2_with fail
  refine (Exchanges_any _).mono ?_
  rintro e w1 ⟨rfl, r1, n1⟩
  go_wp2_with fail
  refine (OffsetAt_any _ 2 2 _ 0 300 _ (by omega) r1).mono ?_
  rintro e w2 ⟨rfl, n2⟩
  rw [awake_off]
  go_wp2_with fail
  refine (Packed_any _ 7 7 [5, 5, 5, 5, 5, 5, 9] _ (by omega) (by exact Rd_new encI_len _ _ _ _ _ _ (by simp) rfl rfl)).mono ?_
  rintro e w3 ⟨n3, ⟨hbad, _⟩ | ⟨_, A3, m3, c3, rfl, o3⟩⟩
  · exact absurd awake_ser hbad
  have r3 := o3.rd
  clear o3
  rw [awake_way, awake_nums] at *
  have bR := ((Bx.mk w2 38 #[.int .i64 396, .int .i64 400]).alloc _).keep n3
  have HM3 := Lib.hid r3.len
  obtain rfl : 4 = m3 := HM3.out
  go_wp2_with fail
  refine (CheckOf_any _ _ (by decide)).mono ?_
  rintro e w4 ⟨rfl, n4⟩
  have bP := (Bx.mk w3 58 #[.int .i64 2, .slice A3 4 c3]).keep n4
  have bR := (bR.alloc (.cells #[.int .i64 2, .slice A3 4 c3] 58)).keep n4
  have r3 := (r3.keep ((New.refl _).alloc (.cells #[.int .i64 2, .slice A3 4 c3] 58))).keep n4
  rw [show crcS (ByteArray.mk #[0]).data.toList = 57840 from awake_crc]
  go_wp2_with fail
  refine (Net_any _).mono ?_
  rintro e w5 ⟨g5, rfl, r5, n5⟩
  go_wp2_with fail
  refine (planFor_any _ _ 4 4 _ _ (by omega) (by omega) r5).mono ?_
  rintro e w6 ⟨n6, ⟨hbad, _⟩ | ⟨_, A6, m6, c6, k6, r, rfl, r6, hk1, hk2, hno, hyes⟩⟩
  · exact absurd (by rw [awake_net]) hbad
  have hk : 2 = k6 := by
    rcases Nat.lt_or_ge k6 2 with h | h
    · obtain rfl : k6 = 1 := by omega
      rw [show (4 : Int).toNat = 4 from rfl, awake_one] at hyes
      cases hyes
    · rcases Nat.lt_or_ge 2 k6 with h2 | h2
      · have := hno 2 (by omega) h2
        rw [show (4 : Int).toNat = 4 from rfl, awake_two] at this
        cases this
      · omega
  subst hk
  rw [show (4 : Int).toNat = 4 from rfl, awake_two] at hyes
  injection hyes with hyes
  subst hyes
  have HM6 := Lib.hid r6.len
  obtain rfl : 4 = m6 := HM6.out
  clear hno hk1 hk2
  have bP := bP.keep (n5.trans n6)
  have bR := bR.keep (n5.trans n6)
  have r3 := r3.keep (n5.trans n6)
  have e1 := eql_rng
  have e2 := guard_rng
  have cR0 : w6.cell? _ = some _ := bR.cell 0
  have cR1 : w6.cell? _ = some _ := bR.cell 1
  have cP0 : w6.cell? _ = some _ := bP.cell 0
  have cP1 : w6.cell? _ = some _ := bP.cell 1
  have lR := bR.lt
  have lP := bP.lt
  have hN6 : New w w6 := ((((((n1.trans n2).alloc _).alloc _).trans n3).alloc _).trans n4).trans (n5.trans n6)
  clear r1 n1 n2 n3 n4 n5 n6
  go_wp2_with fail
  refine (samePacked_any 2 2 A3 _ 4 4 c3 4 [5, 6, 9, 1] [5, 6, 9, 1] _ (by omega) (by omega) (by exact r3.keep ((New.refl _).alloc _)) (by exact Rd_new encI_len _ _ _ _ _ _ rfl rfl rfl)).mono ?_
  rintro e w7 ⟨rfl, n7⟩
  have r6 := (r6.keep ((New.refl _).alloc _)).keep n7
  go_wp2_with fail
  refine (ints_is true A6 _ 4 4 c6 4 [0, 1, 0, 1] [0, 1, 0, 1] _ (by omega) (by omega) (by exact r6.keep ((New.refl _).alloc _)) (by exact Rd_new encI_len _ _ _ _ _ _ rfl rfl rfl) rfl).mono ?_
  rintro e w8 ⟨rfl, n8⟩
  go_wp2_with fail
  go_ret
  exact ⟨rfl, (((hN6.alloc _).trans n7).alloc _).trans n8⟩
end Go.Proofs.Ytjpkcmlepjbamaa
