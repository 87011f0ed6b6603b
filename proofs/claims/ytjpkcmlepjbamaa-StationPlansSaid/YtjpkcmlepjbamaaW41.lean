/- Contracts: the reference of plans: PlanFor, GroupOf. -/
import Derived.Test.YtjpkcmlepjbamaaW40
namespace Go.Proofs.Ytjpkcmlepjbamaa
open Go.RowKit Go.Sky

set_option maxRecDepth 100000 in
set_option maxHeartbeats 4000000 in
theorem refPlanFor_any (st : Int) (A : Option Addr) (n cap : Nat) (ps : List (Int × Int)) (w : World) (hn : n ≤ 1000) (hr : Rd w 2 encP A n ps) (hz : (netS st ps).2 = 0) :
    Calls Try.prog 52 #[.agg #[.int .i64 st, .slice A n cap]] w fun e w' => New w w' ∧
      ∃ (A' : Option Addr) (m cap' k : Nat) (r : List Int), e = .returned (.tuple #[.slice A' m cap', .int .i64 k]) ∧ Rd w' 1 encI A' m r ∧ 1 ≤ k ∧ k ≤ st.toNat ∧
         (∀ j, 1 ≤ j → j < k → planF (maskS st.toNat ps) j st.toNat [] = none) ∧ planF (maskS st.toNat ps) k st.toNat [] = some r := by
  obtain ⟨q1, q2, _, _⟩ := netS_zero hz
  have HZ := Lib.hid hz
  clear hz
  have HR := Lib.hid hr; clear hr
  obtain ⟨s, rfl⟩ : ∃ s : Nat, st = (s : Int) := ⟨st.toNat, by omega⟩
  have hs : s ≤ 8 := by omega
  have hs1 : 1 ≤ s := by omega
  obtain ⟨ms, hms⟩ : ∃ ms, maskS (s : Int).toNat ps = ms := ⟨_, rfl⟩
  rw [hms]
  have HMS := Lib.hid hms
  clear hms
  rw [Int.toNat_natCast]
  have HSOME := Lib.hid (planF_isSome ms s s 0 (by omega))
  have b1 := Bx.mk w 75 #[.int .i64 (s : Int), .slice A n cap]
  have hN := (New.refl w).alloc (.cells #[.int .i64 (s : Int), .slice A n cap] 75)
  go_enter Try.func52, Try.ntmps52
  go_wp2_with fail
  obtain ⟨W0, hW0⟩ : ∃ W0, w.alloc (.cells #[.int .i64 (s : Int), .slice A n cap] 75) = W0 := ⟨_, rfl⟩
  rw [hW0] at b1 hN ⊢
  clear hW0
  go_loopw [4] (fun i wr => ∃ k : Nat, 1 ≤ k ∧ k ≤ s ∧ i = .int .i64 (k : Int) ∧ Hid (∀ j, 1 ≤ j → j < k → planF ms j s [] = none) ∧ New W0 wr) (fun i _ => s - (intOf i).toNat)
  case atStart => exact ⟨1, by omega, by omega, rfl, Lib.hid (fun j h1 h2 => absurd h1 (by omega)), New.refl _⟩
  case round =>
    obtain ⟨k, hk1, hk, rfl, HF, nk⟩ := hrel
    have b2 := b1.keep nk
    have c0 : World.cell? _ _ = some _ := b2.cell 0
    have c1 : World.cell? _ _ = some _ := b2.cell 1
    have lb := b2.lt
    by_cases hks : k < s
    · go_wp2_with fail
      refine (refPlanned_any (s : Int) ps HZ.out k (by omega) A n cap hn s none 0 [] _ (by simp) (HR.out.keep (hN.trans nk)) (Rd.nil _ _ _ _)).mono ?_
      rw [HMS.out]
      rintro e w3 ⟨A3, m3, c3, b3, rfl, n3, ⟨ho, rfl, rfl, rfl, rfl⟩ | ⟨r, ho, rfl, hrd⟩⟩
      · have HO := Lib.hid ho
        clear ho
        go_wp2_with fail
        go_roundw
        case rel => exact ⟨k + 1, by omega, by omega, by go_num, Lib.hid (fun j h1 h2 => by
          rcases Nat.lt_or_ge j k with h | h
          · exact HF.out j h1 h
          · obtain rfl : j = k := by omega
            exact HO.out), nk.trans n3⟩
        case measure => simp [intOf]; omega
      · have HO := Lib.hid ho
        have HRD := Lib.hid hrd
        clear ho hrd
        go_wp2_with fail
        go_ret2
        exact ⟨(hN.trans nk).trans n3, A3, m3, c3, k, r, rfl, HRD.out, hk1, hk, HF.out, HO.out⟩
    · obtain rfl : k = s := by omega
      go_wp2_with fail
      refine (refPlanned_any (k : Int) ps HZ.out k (by omega) A n cap hn k none 0 [] _ (by simp) (HR.out.keep (hN.trans nk)) (Rd.nil _ _ _ _)).mono ?_
      rw [HMS.out]
      rintro e w3 ⟨A3, m3, c3, b3, rfl, n3, ⟨ho, _⟩ | ⟨r, ho, rfl, hrd⟩⟩
      · have h := HSOME.out
        have h0 : (List.range 0).map (fun (i : Nat) => (i : Int)) = [] := rfl
        rw [h0, ho] at h
        cases h
      · have HO := Lib.hid ho
        have HRD := Lib.hid hrd
        have b3' := b2.keep n3
        clear ho hrd c0 c1 lb
        have c0 : World.cell? _ _ = some _ := b3'.cell 0
        have lb := b3'.lt
        go_wp2_with fail
        (refine wp_region_new (by kernel_rfl) (by kernel_rfl) ?_; (repeat (go_big_quiet_step ((fail)))); refine wpQuiet_nil ?_)
        intro w4 n4
        go_wp2
        go_ret2
        exact ⟨((hN.trans nk).trans n3).trans n4, A3, m3, c3, k, r, rfl, HRD.out.keep n4, hk1, by omega, HF.out, HO.out⟩

theorem mem_at {set s : Nat} {k i : Nat} (h : k < i) (hi : i < (memTo set s).length) : ∃ x y, (memTo set s)[k]? = some x ∧ (memTo set s)[i]? = some y ∧ x < y ∧ 0 ≤ x ∧ y < (s : Int) ∧ (memTo set s).getD i 0 = y := by
  refine ⟨(memTo set s)[k], (memTo set s)[i], List.getElem?_eq_getElem _, List.getElem?_eq_getElem _, ?_, ?_, ?_, ?_⟩
  · have := memTo_sorted set s
    rw [List.pairwise_iff_getElem] at this
    exact this k i (by omega) hi h
  · exact (memTo_lt set s _ (List.getElem_mem _)).1
  · exact (memTo_lt set s _ (List.getElem_mem _)).2
  · rw [List.getD_eq_getElem?_getD, List.getElem?_eq_getElem hi]; rfl
theorem all_next {l : List Int} {k : Nat} {x : Int} (p : Int → Bool) (h : l[k]? = some x) : (l.take (k + 1)).all p = ((l.take k).all p && p x) := by
  rw [take_snoc l k x h, List.all_append]
  simp

set_option maxRecDepth 100000 in
set_option maxHeartbeats 8000000 in
theorem refGroup_any (st : Int) (A : Option Addr) (n cap : Nat) (ps : List (Int × Int)) (w : World) (hn : n ≤ 1000) (hr : Rd w 2 encP A n ps) (hz : (netS st ps).2 = 0) :
    Calls Try.prog 54 #[.agg #[.int .i64 st, .slice A n cap]] w fun e w' => New w w' ∧
      ∃ A' m c', e = .returned (.slice A' m c') ∧ Rd w' 1 encI A' m (bestTo (maskS st.toNat ps) st.toNat (2 ^ st.toNat)) := by
  obtain ⟨i0, hi, hz0, hz1, hz2⟩ := info_parts infoInt
  obtain ⟨q1, q2, _, _⟩ := netS_zero hz
  have HR := Lib.hid hr; clear hr
  obtain ⟨s, rfl⟩ : ∃ s : Nat, st = (s : Int) := ⟨st.toNat, by omega⟩
  have hs : s ≤ 8 := by omega
  have hs1 : 1 ≤ s := by omega
  obtain ⟨ms, hms⟩ : ∃ ms, maskS (s : Int).toNat ps = ms := ⟨_, rfl⟩
  have HD : Hid (∀ a b : Int, a < b → 0 ≤ a → b < (s : Int) → distB ms a b = ps.any fun q => sameP q (a, b)) := by
    intro a b h1 h2 h3
    have h := dist_pairs hz (a := a) (b := b) (by omega) (by omega)
    rw [Int.min_eq_left (by omega), Int.max_eq_right (by omega), hms] at h
    exact h
  rw [hms]
  clear hms hz
  obtain ⟨T, hT⟩ : ∃ T : Nat, 2 ^ s = T := ⟨_, rfl⟩
  have hT2 : T ≤ 256 := by rw [← hT]; exact Nat.pow_le_pow_right (by omega) (show s ≤ 8 from hs)
  have hT1 : 1 ≤ T := by rw [← hT]; exact Nat.pow_pos (by omega)
  rw [Int.toNat_natCast, hT]
  have hsh : wrap64 ((2 : Int) ^ s) = (T : Int) := by rw [show (2 : Int) ^ s = ((2 ^ s : Nat) : Int) by simp, hT]; exact IntWalk.wrap64_in _ (by omega)
  clear hT
  have b1 := Bx.mk w 75 #[.int .i64 (s : Int), .slice A n cap]
  have hN := (New.refl w).alloc (.cells #[.int .i64 (s : Int), .slice A n cap] 75)
  go_enter Try.func54, Try.ntmps54
  go_wp2_with fail
  obtain ⟨W0, hW0⟩ : ∃ W0, w.alloc (.cells #[.int .i64 (s : Int), .slice A n cap] 75) = W0 := ⟨_, rfl⟩
  rw [hW0] at b1 hN ⊢
  clear hW0
  go_loopw [3, 4] (fun v i wr => ∃ (N : Nat) (A' : Option Addr) (m c' : Nat), 1 ≤ N ∧ N ≤ T ∧ i = .int .i64 (N : Int) ∧ v = .slice A' m c' ∧ m ≤ 8 ∧ Rd wr 1 encI A' m (bestTo ms s N) ∧ New W0 wr) (fun _ i _ => T - (intOf i).toNat)
  case atStart => exact ⟨1, none, 0, 0, by omega, hT1, rfl, rfl, by omega, by rw [best_one]; exact Rd.nil _ _ _ _, New.refl _⟩
  case round =>
    obtain ⟨N, A', m, c', hN1, hNT, rfl, rfl, hm, hrd, nk⟩ := hrel
    have HRD := Lib.hid hrd
    have HL1 := Lib.hid hrd.len
    clear hrd
    have b2 := b1.keep nk
    have c0 : World.cell? _ _ = some _ := b2.cell 0
    have c1 : World.cell? _ _ = some _ := b2.cell 1
    have lb := b2.lt
    by_cases hlt : N < T
    · go_wp2_with fail
      rw [hsh]
      obtain ⟨Wb, hWb⟩ : ∃ Wb : World, Wb = wr := ⟨_, rfl⟩
      subst hWb
      go_loopw [5, 6] (fun v i wx => ∃ (k : Nat) (A2 : Option Addr) (m2 c2 : Nat), k ≤ s ∧ i = .int .i64 (k : Int) ∧ v = .slice A2 m2 c2 ∧ m2 ≤ k ∧ Sky.Own wx Wb.heap.size 3 1 encI A2 m2 c2 (memTo N k) ∧ New Wb wx) (fun _ i _ => s - (intOf i).toNat)
      case atStart => exact ⟨0, none, 0, 0, by omega, rfl, rfl, by omega, Sky.Own.nil _ _ _ _ encI_len, New.refl _⟩
      case round =>
        clear c0 c1 lb
        obtain ⟨k, A2, m2, c2, hk, rfl, rfl, hm2, hown, nx⟩ := hrel
        have b3 := b2.keep nx
        have c0 : World.cell? _ _ = some _ := b3.cell 0
        have c1 : World.cell? _ _ = some _ := b3.cell 1
        have lb := b3.lt
        by_cases hks : k < s
        · have hk64 : k < 64 := by omega
          by_cases hb : N.testBit k = true
          · have hbit : (bits .and .i64 ((N : Int) / 2 ^ k) 1 == 1) = true := by rw [bit_one (by omega), hb]
            have HM := Lib.hid (mem_yes hb)
            clear hb
            go_wp2_with (at_builtin; refine wpList_push _ rfl _ _ 30 rfl 3 i0 _ 1 8 Try.underlying30 hi hz0 hz1 hz2 rfl (by omega) Wb.heap.size encI A2 m2 c2 _ rfl (by exact hown.alloc _) _ 1 1 [(k : Int)] rfl rfl (by omega) (by exact cells_new _ _ _ _ (by simp) _ rfl) encI_one (by unfold maxLen; omega) (by omega) (by have := nx.size; simp; omega) ?_; intro g cap4 w4 hown4 hg4 hat4 hb4 hlt4 hN4)
            go_roundw
            case rel => exact ⟨k + 1, _, m2 + 1, cap4, by omega, by go_num, rfl, by omega, by rw [HM.out]; exact hown4, hN4 _ (nx.alloc _) (Nat.le_refl _)⟩
            case measure => simp [intOf]; omega
          · have hbit : (bits .and .i64 ((N : Int) / 2 ^ k) 1 == 1) = false := by rw [bit_one (by omega)]; simpa using hb
            have HM := Lib.hid (mem_no (by simpa using hb) : memTo N (k + 1) = memTo N k)
            clear hb
            go_wp2_with fail
            go_roundw
            case rel => exact ⟨k + 1, A2, m2, c2, by omega, by go_num, rfl, by omega, by rw [HM.out]; exact hown, nx⟩
            case measure => simp [intOf]; omega
        · obtain rfl : k = s := by omega
          have HLM := Lib.hid hown.len
          have HOW := Lib.hid hown
          clear hown
          have hm8 : m2 ≤ 8 := by omega
          have nx0 := nk.trans nx
          have HRD2 := Lib.hid (HRD.out.keep nx)
          clear nx b2 nk hm2 hk hks
          go_wp2_with fail
          obtain ⟨Wc, hWc⟩ : ∃ Wc : World, Wc = wr := ⟨_, rfl⟩
          subst hWc
          go_loopw [7, 8] (fun fr i wx => ∃ (j : Nat) (q : Bool), j ≤ m2 ∧ i = .int .i64 (j : Int) ∧ fr = .bool q ∧ Hid (q = cliqTo ms (memTo N k) j) ∧ New Wc wx) (fun _ i _ => m2 - (intOf i).toNat)
          case atStart => exact ⟨0, true, by omega, rfl, rfl, rfl, New.refl _⟩
          case round =>
            clear c0 c1 lb
            obtain ⟨j, q, hj, rfl, rfl, HQ, nj⟩ := hrel
            have b4 := b3.keep nj
            have c0 : World.cell? _ _ = some _ := b4.cell 0
            have c1 : World.cell? _ _ = some _ := b4.cell 1
            have lb := b4.lt
            by_cases hjm : j < m2
            · go_wp2_with fail
              go_loopw [7, 9] (fun fr i wx => ∃ (t : Nat) (p : Bool), t ≤ j ∧ i = .int .i64 (t : Int) ∧ fr = .bool p ∧ Hid (p = (q && cliqRow ms (memTo N k) ((memTo N k).getD j 0) t)) ∧ New Wc wx) (fun _ i _ => j - (intOf i).toNat)
              case atStart => exact ⟨0, q, by omega, rfl, rfl, Lib.hid (by unfold cliqRow; simp), nj⟩
              case round =>
                clear c0 c1 lb b4 nj
                obtain ⟨t, p, ht, rfl, rfl, HP, nt⟩ := hrel
                have b4 := b3.keep nt
                have c0 : World.cell? _ _ = some _ := b4.cell 0
                have c1 : World.cell? _ _ = some _ := b4.cell 1
                have lb := b4.lt
                by_cases htj : t < j
                · obtain ⟨x, y, hx, hy, hxy, hx0, hys, hyd⟩ := mem_at (set := N) (s := k) htj (by rw [HLM.out]; exact hjm)
                  obtain ⟨bb, ob, e, hbb, hcc⟩ := (HOW.out.keep nt).rd.some_ (by omega)
                  subst e
                  have g0 := hcc t x hx 0 _ rfl
                  have g1 := hcc j y hy 0 _ rfl
                  simp only [Nat.add_zero, Nat.mul_one] at g0 g1
                  have HST := Lib.hid (show (q && cliqRow ms (memTo N k) ((memTo N k).getD j 0) (t + 1)) = (p && distB ms x y) by
                    unfold cliqRow
                    rw [all_next _ hx, hyd, HP.out]
                    unfold cliqRow
                    rw [hyd, Bool.and_assoc])
                  have i0 : (0 : Int) ≤ (t : Int) := by omega
                  have i1 : (t : Int) < (m2 : Int) := by omega
                  have j0 : (0 : Int) ≤ (j : Int) := by omega
                  have j1 : (j : Int) < (m2 : Int) := by omega
                  have hRt := Lib.hid (HR.out.keep (hN.trans (nx0.trans nt)))
                  have HDX := Lib.hid (HD.out x y hxy hx0 hys)
                  clear hx hy hyd hcc
                  cases p
                  · go_wp2_with fail
                    (refine wp_region_new (by kernel_rfl) (by kernel_rfl) ?_; (repeat (go_big_quiet_step ((fail)))); refine wpQuiet_nil ?_)
                    intro w5 n5
                    go_wp2_with fail
                    go_roundw
                    case rel => exact ⟨t + 1, false, by omega, by go_num, rfl, Lib.hid (by rw [HST.out]; rfl), nt.trans n5⟩
                    case measure => simp [intOf]; omega
                  · go_wp2_with fail
                    (refine wp_region_new (by kernel_rfl) (by kernel_rfl) ?_; (repeat (go_big_quiet_step (((go_at_call 111; exact quiet_new (refDist_any (k : Int) A n cap ps x y hxy _ (by omega) (hRt.out.keep (plus_new _ _)))))))); refine wpQuiet_nil ?_)
                    intro w5 n5
                    go_wp2_with fail
                    go_roundw
                    case rel => exact ⟨t + 1, _, by omega, by go_num, rfl, Lib.hid (by rw [HST.out, HDX.out]; rfl), nt.trans n5⟩
                    case measure => simp [intOf]; omega
                · obtain rfl : t = j := by omega
                  have HST := Lib.hid (show cliqTo ms (memTo N k) (t + 1) = p by
                    rw [HP.out, HQ.out]; rfl)
                  go_wp2_with fail
                  go_roundw
                  case rel => exact ⟨t + 1, p, by omega, by go_num, rfl, Lib.hid HST.out.symm, nt⟩
                  case measure => simp [intOf]; omega
            · obtain rfl : j = m2 := by omega
              have HR1 := Lib.hid (HRD2.out.keep nj)
              have HR2 := Lib.hid (HOW.out.keep nj).rd
              have nj0 := nx0.trans nj
              have HQ' := Lib.hid (show cliqTo ms (memTo N k) (memTo N k).length = q by rw [HLM.out]; exact HQ.out.symm)
              have HBR := Lib.hid (best_ref ms k N)
              clear c0 c1 lb b4 nj
              cases q
              · have HV := Lib.hid (show bestTo ms k (N + 1) = bestTo ms k N by rw [HBR.out, HQ'.out, Bool.false_and, if_neg (by decide)])
                go_wp2_with fail
                go_roundw
                case rel => exact ⟨N + 1, A', m, c', by omega, by omega, by go_num, rfl, hm, by rw [HV.out]; exact HR1.out, nj0⟩
                case measure => simp [intOf]; omega
              · have HBO := Lib.hid (better_of (l := memTo N k) (b := bestTo ms k N) HLM.out HL1.out)
                by_cases h1 : m < j
                · have HV := Lib.hid (show bestTo ms k (N + 1) = memTo N k by rw [HBR.out, HQ'.out, Bool.true_and, HBO.out, decide_eq_true h1, Bool.true_or, if_pos rfl])
                  go_wp2_with fail
                  go_roundw
                  case rel => exact ⟨N + 1, A2, j, c2, by omega, by omega, by go_num, rfl, hm8, by rw [HV.out]; exact HR2.out, nj0⟩
                  case measure => simp [intOf]; omega
                · by_cases h2 : j = m
                  · have d2 : ((j : Int) == (m : Int)) = true := by simp; omega
                    obtain ⟨c, hc⟩ : ∃ c, decide (lexC (memTo N k) (bestTo ms k N) < 0) = c := ⟨_, rfl⟩
                    have HC := Lib.hid hc
                    have HV := Lib.hid (show bestTo ms k (N + 1) = if c = true then memTo N k else bestTo ms k N by rw [HBR.out, HQ'.out, Bool.true_and, HBO.out, decide_eq_false h1, Bool.false_or, decide_eq_true h2, Bool.true_and, hc])
                    clear h2 hc
                    go_wp2_with fail
                    refine (before_any A2 A' j m c2 c' _ _ _ (by omega) (by omega) HR2.out HR1.out).mono ?_
                    rintro e w6 ⟨rfl, n6⟩
                    rw [HC.out]
                    cases c
                    · go_wp2_with fail
                      go_roundw
                      case rel => exact ⟨N + 1, A', m, c', by omega, by omega, by go_num, rfl, hm, by rw [HV.out, if_neg (by decide)]; exact HR1.out.keep n6, nj0.trans n6⟩
                      case measure => simp [intOf]; omega
                    · go_wp2_with fail
                      go_roundw
                      case rel => exact ⟨N + 1, A2, j, c2, by omega, by omega, by go_num, rfl, hm8, by rw [HV.out, if_pos trivial]; exact HR2.out.keep n6, nj0.trans n6⟩
                      case measure => simp [intOf]; omega
                  · have d2 : ((j : Int) == (m : Int)) = false := by simp; omega
                    have HV := Lib.hid (show bestTo ms k (N + 1) = bestTo ms k N by rw [HBR.out, HQ'.out, Bool.true_and, HBO.out, decide_eq_false h1, Bool.false_or, decide_eq_false h2, Bool.false_and, if_neg (by decide)])
                    clear h2
                    go_wp2_with fail
                    go_roundw
                    case rel => exact ⟨N + 1, A', m, c', by omega, by omega, by go_num, rfl, hm, by rw [HV.out]; exact HR1.out, nj0⟩
                    case measure => simp [intOf]; omega
    · obtain rfl : N = T := by omega
      go_wp2_with fail
      go_ret
      exact ⟨hN.trans nk, A', m, c', rfl, HRD.out⟩
end Go.Proofs.Ytjpkcmlepjbamaa
