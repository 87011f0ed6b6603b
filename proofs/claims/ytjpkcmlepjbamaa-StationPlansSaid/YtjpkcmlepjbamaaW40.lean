/- Contracts: the reference of plans: planned, PlanFor. -/
import Derived.Test.YtjpkcmlepjbamaaW39
import Derived.Test.YtjpkcmlepjbamaaQPush
namespace Go.Proofs.Ytjpkcmlepjbamaa
open Go.RowKit Go.Sky

def RPlanPost (w : World) (o : Option (List Int)) (e : Ending) (w' : World) : Prop :=
  ∃ A m cap b, e = .returned (.tuple #[.slice A m cap, .bool b]) ∧ New w w' ∧ ((o = none ∧ b = false ∧ A = none ∧ m = 0 ∧ cap = 0) ∨ (∃ r, o = some r ∧ b = true ∧ Rd w' 1 encI A m r))

theorem free_step {st : Int} {ps : List (Int × Int)} (hz : (netS st ps).2 = 0) {slots : List Int} {k : Int} {j L : Nat} {u : Int} (hL : slots.length = L) (hLs : L < st.toNat) (hj : j < L) (hu : slots[j]? = some u) :
    freeTo (maskS st.toNat ps) slots k (j + 1) = (freeTo (maskS st.toNat ps) slots k j && !(u == k && ps.any fun q => sameP q ((j : Int), (L : Int)))) := by
  rw [freeTo, List.getD_eq_getElem?_getD, hu, hL]
  congr 2
  congr 1
  have h := dist_pairs hz (a := (j : Int)) (b := (L : Int)) (by omega) (by omega)
  rw [Int.min_eq_left (by omega), Int.max_eq_right (by omega)] at h
  rw [← h]
  unfold distB
  rw [Int.toNat_natCast, Int.toNat_natCast]

set_option maxRecDepth 100000 in
set_option maxHeartbeats 4000000 in
theorem refPlanned_any (st : Int) (ps : List (Int × Int)) (hz : (netS st ps).2 = 0) (cnt : Nat) (hcnt : cnt ≤ 100) (B : Option Addr) (n bcap : Nat) (hn : n ≤ 1000) : ∀ (f : Nat) (A : Option Addr) (cap : Nat) (slots : List Int) (w : World),
    slots.length + f = st.toNat → Rd w 2 encP B n ps → Rd w 1 encI A slots.length slots →
    Calls Try.prog 110 #[.agg #[.int .i64 st, .slice B n bcap], .slice A slots.length cap, .int .i64 cnt] w (RPlanPost w (planF (maskS st.toNat ps) cnt f slots)) := by
  have HZ := Lib.hid hz
  obtain ⟨q1, q2, _, _⟩ := netS_zero hz
  clear hz
  intro f
  induction f with
  | zero =>
    intro A cap slots w hl hB hA
    have d1 : ((slots.length : Int) == st) = true := by simp; omega
    have hRA := Lib.hid hA
    obtain ⟨L, hL⟩ : ∃ L, slots.length = L := ⟨_, rfl⟩
    have HL := Lib.hid hL
    rw [hL] at hl d1 hRA ⊢
    clear hA hB hL
    have b1 := Bx.mk w 75 #[.int .i64 st, .slice B n bcap]
    have hN := (New.refl w).alloc (.cells #[.int .i64 st, .slice B n bcap] 75)
    have c0 : World.cell? _ _ = some _ := b1.cell 0
    have lb := b1.lt
    go_enter Try.func110, Try.ntmps110
    go_wp2_with fail
    refine (copyInts_any A L cap slots _ (by omega) (hRA.out.keep hN)).mono ?_
    rintro e w2 ⟨A2, c2, rfl, hown2, n2⟩
    go_wp2_with fail
    go_ret2
    exact ⟨A2, L, c2, true, rfl, hN.trans n2, .inr ⟨slots, rfl, rfl, hown2.rd⟩⟩
  | succ f ih =>
    intro A cap slots w hl hB hA
    obtain ⟨i0, hi, hz0, hz1, hz2⟩ := info_parts infoInt
    have IH := Lib.hid ih; clear ih
    have d1 : ((slots.length : Int) == st) = false := by simp; omega
    have hRA := Lib.hid hA
    have hRB := Lib.hid hB
    clear hA hB
    obtain ⟨L, hL⟩ : ∃ L, slots.length = L := ⟨_, rfl⟩
    have HL := Lib.hid hL
    rw [hL] at hl d1 hRA ⊢
    clear hL
    have b1 := Bx.mk w 75 #[.int .i64 st, .slice B n bcap]
    have hN := (New.refl w).alloc (.cells #[.int .i64 st, .slice B n bcap] 75)
    have c0 : World.cell? _ _ = some _ := b1.cell 0
    have c1 : World.cell? _ _ = some _ := b1.cell 1
    have lb := b1.lt
    obtain ⟨ms, hms⟩ : ∃ ms, maskS st.toNat ps = ms := ⟨_, rfl⟩
    rw [hms] at IH ⊢
    have HMS := Lib.hid hms
    clear hms
    go_enter Try.func110, Try.ntmps110
    go_wp2_with fail
    obtain ⟨W0, hW0⟩ : ∃ W0, w.alloc (.cells #[.int .i64 st, .slice B n bcap] 75) = W0 := ⟨_, rfl⟩
    rw [hW0] at b1 hN c0 c1 lb ⊢
    clear hW0
    go_loopw [9] (fun i wr => ∃ k : Nat, k ≤ cnt ∧ i = .int .i64 (k : Int) ∧ Hid (∀ c, c < k → candS ms cnt f slots c = none) ∧ New W0 wr) (fun i _ => cnt - (intOf i).toNat)
    case atStart => exact ⟨0, by omega, rfl, Lib.hid (fun c hc => absurd hc (by omega)), New.refl _⟩
    case round =>
      clear c0 c1 lb
      obtain ⟨k, hk, rfl, HF, nk⟩ := hrel
      by_cases hlt : k < cnt
      · go_wp2_with fail
        go_loopw [10, 11] (fun fr i wx => ∃ (j : Nat) (q : Bool), j ≤ L ∧ i = .int .i64 (j : Int) ∧ fr = .bool q ∧ Hid (q = freeTo ms slots (k : Int) j) ∧ New W0 wx) (fun _ i _ => L - (intOf i).toNat)
        case atStart => exact ⟨0, true, by omega, rfl, rfl, rfl, nk⟩
        case round =>
          clear nk
          obtain ⟨j, q, hj, rfl, rfl, HQ, nx⟩ := hrel
          have b2 := b1.keep nx
          have c0 : World.cell? _ _ = some _ := b2.cell 0
          have c1 : World.cell? _ _ = some _ := b2.cell 1
          have lb := b2.lt
          have hNx := hN.trans nx
          by_cases hjl : j < L
          · obtain ⟨b, o, u, rfl, hb, hu, hc⟩ := (hRA.out.keep hNx).at_ hjl
            have g0 := hc 0 _ rfl
            simp only [Nat.add_zero, Nat.mul_one] at g0
            have HFS := Lib.hid (show freeTo ms slots (k : Int) (j + 1) = (q && !(u == (k : Int) && ps.any fun q => sameP q ((j : Int), (L : Int)))) by
              rw [← HMS.out, free_step HZ.out HL.out (by omega) hjl hu, HMS.out, ← HQ.out])
            clear hc hu
            cases q
            · go_wp2_with fail
              go_roundw
              case rel => exact ⟨j + 1, false, by omega, by go_num, rfl, by rw [HFS.out]; rfl, nx⟩
              case measure => simp [intOf]; omega
            · by_cases huk : u = (k : Int)
              · have he : (u != (k : Int)) = false := by simpa using huk
                have he2 : (u == (k : Int)) = true := by simpa using huk
                have HE := Lib.hid he2
                clear huk he2
                go_wp2_with fail
                refine (refDist_any st B n bcap ps (j : Int) (L : Int) (by omega) _ (by omega) (hRB.out.keep hNx)).mono ?_
                rintro e w3 ⟨rfl, n3⟩
                go_wp2_with fail
                go_roundw
                case rel => exact ⟨j + 1, _, by omega, by go_num, rfl, by rw [HFS.out, HE.out]; rfl, nx.trans n3⟩
                case measure => simp [intOf]; omega
              · have he : (u != (k : Int)) = true := by simpa using huk
                have he2 : (u == (k : Int)) = false := by simpa using huk
                have HE := Lib.hid he2
                clear huk he2
                go_wp2_with fail
                go_roundw
                case rel => exact ⟨j + 1, true, by omega, by go_num, rfl, by rw [HFS.out, HE.out]; rfl, nx⟩
                case measure => simp [intOf]; omega
          · obtain rfl : L = j := by omega
            cases q
            · have HC := Lib.hid (show candS ms cnt f slots k = none by unfold candS; rw [HL.out, ← HQ.out]; rfl)
              go_wp2_with fail
              go_roundw
              case rel => exact ⟨k + 1, by omega, by go_num, Lib.hid (fun c hc => by
                rcases Nat.lt_or_ge c k with h | h
                · exact HF.out c h
                · obtain rfl : c = k := by omega
                  exact HC.out), nx⟩
              case measure => simp [intOf]; omega
            · have HC := Lib.hid (show candS ms cnt f slots k = planF ms cnt f (slots ++ [(k : Int)]) by unfold candS; rw [HL.out, ← HQ.out]; rfl)
              have HLL := Lib.hid (show (slots ++ [(k : Int)]).length = L + 1 by rw [List.length_append, HL.out]; rfl)
              go_wp2_with fail
              have a0 : W0.cell? _ = some _ := b1.cell 0
              have a1 : W0.cell? _ = some _ := b1.cell 1
              have la := b1.lt
              clear c0 c1 lb b2
              refine wp_region_takes0 W0 nx 2 11 #[true, true, false, false, false, false, false, false, false, false, false, false, false] (by kernel_rfl) (by kernel_rfl) (by kernel_rfl) (by kernel_rfl) (by kernel_rfl) (by kernel_rfl) ?_
              simp only [List.take_succ_cons, List.take_zero]
              (repeat (go_big_quiet_step ((fail))))
              refine wpQuiet_nil ?_
              intro W1 n1
              have n01 := nx.trans n1
              refine take_next 3 1 #[true, true, false, true, false, false, false, false, false, false, false, false, false] rfl (by kernel_rfl) (by kernel_rfl) (by kernel_rfl) (by kernel_rfl) (by decide) ?_
              simp only [List.take_succ_cons, List.take_zero, List.drop_succ_cons, List.drop_zero]
              (repeat (go_big_quiet_step ((fail))))
              refine wpQuiet_nil ?_
              refine take_next 6 1 #[true, true, false, true, false, false, true, false, false, false, false, false, false] rfl (by kernel_rfl) (by kernel_rfl) (by kernel_rfl) (by kernel_rfl) (by decide) ?_
              simp only [List.take_succ_cons, List.take_zero, List.drop_succ_cons, List.drop_zero]
              (repeat (go_big_quiet_step ((fail))))
              refine wpQuiet_nil ?_
              refine two_next 2 4 (by kernel_rfl) (new_plus n01) ?o1 ?o2
              case' o1 =>
                refine wpOpIn_list rfl ?_
                gi_wp2_with fail
                refine ⟨trivial, callsIn_wide.2 ((copyInts_any A L cap slots _ (by omega) (hRA.out.keep (hN.trans n01))).mono ?_)⟩
                rintro e w2 ⟨A1, cap1, rfl, hown1, n2⟩
                gi_wp2
                refine one_next 4 (by kernel_rfl) (new_plus (n01.trans n2)) (wpOpIn_list rfl ?_)
                gi_wp2
                have nn := (n01.trans n2).alloc (.cells #[.int .i64 (k : Int)] 3)
                have ho := (hown1.base_le (base' := W0.heap.size) n01.size).alloc (.cells #[.int .i64 (k : Int)] 3)
                have hb := Bx.mk w2 3 #[.int .i64 (k : Int)]
                obtain ⟨W5, hW5⟩ : ∃ W5, w2.alloc (.cells #[.int .i64 (k : Int)] 3) = W5 := ⟨_, rfl⟩
                rw [hW5] at nn ho hb ⊢
                obtain ⟨B5, hB5⟩ : ∃ B5, w2.heap.size = B5 := ⟨_, rfl⟩
                rw [hB5] at hb ⊢
                clear hW5 hB5 hown1 n2
              case' o2 =>
                refine wpOpIn_list rfl ?_
                gi_wp2
                have n1b := n01.alloc (.cells #[.int .i64 (k : Int)] 3)
                refine one_next 2 (by kernel_rfl) (new_plus n1b) (wpOpIn_list rfl ?_)
                gi_wp2_with fail
                refine ⟨trivial, callsIn_wide.2 ((copyInts_any A L cap slots _ (by omega) (hRA.out.keep (hN.trans n1b))).mono ?_)⟩
                rintro e W5 ⟨A1, cap1, rfl, hown1, n2⟩
                gi_wp2
                have nn := n1b.trans n2
                have ho := hown1.base_le (base' := W0.heap.size) n1b.size
                have hb := (Bx.mk W1 3 #[.int .i64 (k : Int)]).keep n2
                obtain ⟨B5, hB5⟩ : ∃ B5, W1.heap.size = B5 := ⟨_, rfl⟩
                rw [hB5] at hb ⊢
                clear hB5 hown1 n2 n1b
              all_goals
                refine one_next 5 (by kernel_rfl) (new_plus nn) (wpOpIn_list rfl ?_)
                refine wpListIn_flow _ rfl _ _ 30 rfl 3 i0 _ 1 8 Try.underlying30 hi hz0 hz1 hz2 rfl (by omega) W0.heap.size encI A1 L cap1 slots rfl (by exact ho) (some ⟨B5, 0, none⟩) 1 1 [(k : Int)] rfl (by exact rd_bx hb encI_len [(k : Int)] rfl 1 rfl) encI_one (by unfold maxLen; omega) (by omega) (by exact nn.size) ?_
                intro A6 c6 w6 hown6 hg6 hN6
                gi_wp2
                have n6 := hN6 W0 nn (Nat.le_refl _)
                refine one_next 7 (by kernel_rfl) (new_plus n6) (wpOpIn_list rfl ?_)
                gi_wp2_with fail
                have hIH := IH.out A6 c6 (slots ++ [(k : Int)]) w6 (by rw [HLL.out]; omega) (hRB.out.keep (hN.trans n6)) (by rw [HLL.out]; exact hown6.rd)
                rw [HLL.out] at hIH
                refine ⟨trivial, callsIn_wide.2 (hIH.mono ?_)⟩
                clear hIH hN6 hown6 hg6 ho hb nn
                rintro e w7 ⟨A7, m7, c7, b7, rfl, n7, hor⟩
                have HOR := Lib.hid hor
                clear hor
                gi_wp2
                have n07 := n6.trans n7
                refine take_next 8 5 #[true, true, true, true, true, true, true, true, true, true, true, true, true] rfl (by kernel_rfl) (by kernel_rfl) (by kernel_rfl) (by kernel_rfl) (by decide) ?_
                simp only [List.take_succ_cons, List.take_zero, List.drop_succ_cons, List.drop_zero]
                (repeat (go_big_quiet_step ((fail))))
                refine wpQuiet_nil ?_
                refine end_any (new_plus n07) (by kernel_rfl) ?_
                rcases HOR.out with ⟨ho, rfl, rfl, rfl, rfl⟩ | ⟨r, ho, rfl, hrd⟩
                · have HO := Lib.hid ho
                  clear ho
                  go_wp2_with fail
                  go_roundw
                  case rel => exact ⟨k + 1, by omega, by go_num, Lib.hid (fun c hc => by
                    rcases Nat.lt_or_ge c k with h | h
                    · exact HF.out c h
                    · obtain rfl : c = k := by omega
                      rw [HC.out]; exact HO.out), n07⟩
                  case measure => simp [intOf]; omega
                · have HO := Lib.hid ho
                  have HRD := Lib.hid hrd
                  clear ho hrd
                  go_wp2_with fail
                  go_ret2
                  exact ⟨A7, m7, c7, true, rfl, hN.trans n07, .inr ⟨r, by rw [planF_succ]; exact range_findSome_some hlt HF.out (by rw [HC.out]; exact HO.out), rfl, HRD.out⟩⟩
      · obtain rfl : cnt = k := by omega
        go_wp2_with fail
        go_ret2
        exact ⟨none, 0, 0, false, rfl, hN.trans nk, .inl ⟨by rw [planF_succ]; exact range_findSome_none HF.out, rfl, rfl, rfl, rfl⟩⟩
end Go.Proofs.Ytjpkcmlepjbamaa
