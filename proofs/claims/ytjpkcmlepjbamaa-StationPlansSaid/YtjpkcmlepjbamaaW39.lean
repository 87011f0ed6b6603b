/- Contracts: the reference of plans: CheckNet, CheckPlan. -/
import Derived.Test.YtjpkcmlepjbamaaW38
namespace Go.Proofs.Ytjpkcmlepjbamaa
open Go.RowKit Go.Sky

theorem pe_in {st : Int} {pre : List (Int × Int)} {p : Int × Int} (h : (inR p.1 0 (st - 1) && inR p.2 0 (st - 1)) = false) : pairErr st pre p = 6 := by unfold pairErr; rw [h]; rfl
theorem pe_ord {st : Int} {pre : List (Int × Int)} {p : Int × Int} (h : (inR p.1 0 (st - 1) && inR p.2 0 (st - 1)) = true) (h2 : ¬ p.1 < p.2) : pairErr st pre p = 9 := by unfold pairErr; rw [h, decide_eq_false h2]; rfl
theorem pe_dbl {st : Int} {pre : List (Int × Int)} {p : Int × Int} (h : (inR p.1 0 (st - 1) && inR p.2 0 (st - 1)) = true) (h2 : p.1 < p.2) (h3 : pre.any (sameP p) = true) : pairErr st pre p = 23 := by unfold pairErr; rw [h, decide_eq_true h2, h3]; rfl
theorem pe_ok {st : Int} {pre : List (Int × Int)} {p : Int × Int} (h : (inR p.1 0 (st - 1) && inR p.2 0 (st - 1)) = true) (h2 : p.1 < p.2) (h3 : pre.any (sameP p) = false) : pairErr st pre p = 0 := by unfold pairErr; rw [h, decide_eq_true h2, h3]; rfl
theorem net_kind {st : Int} {ps : List (Int × Int)} (h : inR st 1 8 = false) : netS st ps = (0, 2) := by
  unfold netS netE0
  rw [h]
  rfl
theorem net_large {st : Int} {ps : List (Int × Int)} (h : inR st 1 8 = true) (h2 : 28 < ps.length) : netS st ps = (0, 8) := by
  unfold netS netE0
  rw [h, show decide (((ps.length : Nat) : Int) ≤ 28) = false from decide_eq_false (by omega)]
  rfl
theorem net_go {st : Int} {ps : List (Int × Int)} (h : inR st 1 8 = true) (h2 : ¬ 28 < ps.length) : netS st ps = netFrom st [] ps 0 := by
  unfold netS netE0
  rw [h, show decide (((ps.length : Nat) : Int) ≤ 28) = true from decide_eq_true (by omega)]
  rfl

set_option maxRecDepth 100000 in
set_option maxHeartbeats 4000000 in
theorem refNet_any (st : Int) (A : Option Addr) (n cap : Nat) (ps : List (Int × Int)) (w : World) (hn : n ≤ 100000) (hr : Rd w 2 encP A n ps) :
    Calls Try.prog 51 #[.agg #[.int .i64 st, .slice A n cap]] w fun e w' => e = .returned (.tuple #[.int .i64 (netS st ps).1, .int .i64 (netS st ps).2]) ∧ New w w' := by
  have HL := Lib.hid hr.len
  have HR := Lib.hid hr; clear hr
  have heq := eql_pair
  have hgu := guard_pair
  have b1 := Bx.mk w 75 #[.int .i64 st, .slice A n cap]
  have hN := (New.refl w).alloc (.cells #[.int .i64 st, .slice A n cap] 75)
  obtain ⟨q, hq⟩ : ∃ q, inR st 1 8 = q := ⟨_, rfl⟩
  cases q
  · have HV := Lib.hid (net_kind (ps := ps) hq)
    have HQ := Lib.hid hq; clear hq
    have c0 : World.cell? _ _ = some _ := b1.cell 0
    have lb := b1.lt
    go_enter Try.func51, Try.ntmps51
    go_wp2_with fail
    refine (bWithin_is st 1 8 _ _ HQ.out).mono ?_
    rintro e w' ⟨rfl, rfl⟩
    go_wp2_with fail
    go_ret2
    exact ⟨by rw [HV.out]; rfl, hN⟩
  have hst : 1 ≤ st ∧ st ≤ 8 := by unfold inR at hq; exact of_decide_eq_true hq
  obtain ⟨hst1, hst2⟩ := hst
  by_cases h28 : 28 < n
  · have HV := Lib.hid (net_large (ps := ps) hq (by rw [HL.out]; exact h28))
    have HQ := Lib.hid hq; clear hq
    have c0 : World.cell? _ _ = some _ := b1.cell 0
    have c1 : World.cell? _ _ = some _ := b1.cell 1
    have lb := b1.lt
    go_enter Try.func51, Try.ntmps51
    go_wp2_with fail
    refine (bWithin_is st 1 8 _ _ HQ.out).mono ?_
    rintro e w' ⟨rfl, rfl⟩
    go_wp2_with fail
    go_ret2
    exact ⟨by rw [HV.out]; rfl, hN⟩
  have HV0 := Lib.hid (net_go (ps := ps) hq (by rw [HL.out]; exact h28))
  have HQ := Lib.hid hq; clear hq
  go_enter Try.func51, Try.ntmps51
  have c0 : World.cell? _ _ = some _ := b1.cell 0
  have c1 : World.cell? _ _ = some _ := b1.cell 1
  have lb := b1.lt
  go_wp2_with fail
  refine (bWithin_is st 1 8 _ _ HQ.out).mono ?_
  rintro e w' ⟨rfl, rfl⟩
  go_wp2_with fail
  go_loopw [4] (fun i wr => ∃ k : Nat, k ≤ n ∧ i = .int .i64 (k : Int) ∧ Hid (netS st ps = netFrom st (ps.take k) (ps.drop k) (k : Int)) ∧ Bx wr w.heap.size 75 #[.int .i64 st, .slice A n cap] ∧ New w wr) (fun i _ => n - (intOf i).toNat)
  case atStart => exact ⟨0, by omega, rfl, HV0, b1, hN⟩
  case round =>
    clear b1 hN c0 c1 lb
    obtain ⟨k, hk, rfl, HF, b1, hN⟩ := hrel
    have c0 : wr.cell? _ = some _ := b1.cell 0
    have c1 : wr.cell? _ = some _ := b1.cell 1
    have lb := b1.lt
    by_cases hlt : k < n
    · obtain ⟨bb, o, p, rfl, hb, hx, hc⟩ := (HR.out.keep hN).at_ hlt
      have g0 := hc 0 _ rfl
      have g1 := hc 1 _ rfl
      simp only [Nat.add_zero] at g0
      have HST := Lib.hid (HF.out.trans (netFrom_step hx))
      have HX := Lib.hid hx
      clear hx hc HF
      obtain ⟨p1, p2⟩ := p
      dsimp only at g0 g1
      have b2 := b1.alloc (.cells #[.int .i64 p1, .int .i64 p2] 52)
      have bp := Bx.mk wr 52 #[.int .i64 p1, .int .i64 p2]
      have n2 := hN.alloc (.cells #[.int .i64 p1, .int .i64 p2] 52)
      obtain ⟨q1, hq1⟩ : ∃ q, inR p1 0 (st - 1) = q := ⟨_, rfl⟩
      obtain ⟨q2, hq2⟩ : ∃ q, inR p2 0 (st - 1) = q := ⟨_, rfl⟩
      have HQ1 := Lib.hid hq1
      have HQ2 := Lib.hid hq2
      clear hq1 hq2
      go_wp2_with fail
      refine (bWithin_any _ _ _ _).mono ?_
      rintro e w' ⟨rfl, rfl⟩
      rw [HQ1.out]
      have d0 : World.cell? _ _ = some _ := b2.cell 0
      have d1 : World.cell? _ _ = some _ := b2.cell 1
      have e0 : World.cell? _ _ = some _ := bp.cell 0
      have e1 : World.cell? _ _ = some _ := bp.cell 1
      have lp := bp.lt
      have lb2 := b2.lt
      cases q1
      · have HV := Lib.hid (show netS st ps = ((k : Int), 6) by rw [HST.out, pe_in (by dsimp only; rw [HQ1.out]; rfl), if_neg (by decide)])
        go_wp2_with fail
        go_ret2
        exact ⟨by rw [HV.out]; rfl, n2⟩
      go_wp2_with fail
      refine (bWithin_any _ _ _ _).mono ?_
      rintro e w' ⟨rfl, rfl⟩
      rw [HQ2.out]
      cases q2
      · have HV := Lib.hid (show netS st ps = ((k : Int), 6) by rw [HST.out, pe_in (by dsimp only; rw [HQ1.out, HQ2.out]; rfl), if_neg (by decide)])
        go_wp2_with fail
        go_ret2
        exact ⟨by rw [HV.out]; rfl, n2⟩
      by_cases hlt2 : p1 < p2
      · go_wp2_with fail
        obtain ⟨W1, hW1⟩ : ∃ W1, wr.alloc (.cells #[.int .i64 p1, .int .i64 p2] 52) = W1 := ⟨_, rfl⟩
        rw [hW1] at b2 bp n2 ⊢
        have hBn : wr.heap.size < W1.heap.size := bp.lt
        obtain ⟨Bp, hBp⟩ : ∃ Bp, wr.heap.size = Bp := ⟨_, rfl⟩
        rw [hBp] at bp hBn ⊢
        clear hW1 d0 d1 e0 e1 lp lb2 g0 g1 hb c0 c1 lb hN
        go_loopw [6] (fun i wx => ∃ j : Nat, j ≤ k ∧ i = .int .i64 (j : Int) ∧ Hid (∀ (j' : Nat) x, j' < j → ps[j']? = some x → sameP (p1, p2) x = false) ∧ New W1 wx) (fun i _ => k - (intOf i).toNat)
        case atStart => exact ⟨0, by omega, rfl, (fun j x hj => absurd hj (by omega)), New.refl _⟩
        case round =>
          obtain ⟨j, hj, rfl, HJ, nx⟩ := hrel
          have b3 := b2.keep nx
          have bp3 := bp.keep nx
          have c0 : wr.cell? _ = some _ := b3.cell 0
          have c1 : wr.cell? _ = some _ := b3.cell 1
          have e0 : wr.cell? _ = some _ := bp3.cell 0
          have e1 : wr.cell? _ = some _ := bp3.cell 1
          have lb := b3.lt
          have lp := bp3.lt
          by_cases hjk : j < k
          · obtain ⟨b', o', e', hb, _⟩ := (HR.out.keep (n2.trans nx)).some_ (by omega)
            injection e' with e'
            injection e' with e1' e2'
            subst e1' e2'
            obtain ⟨b', o', y, e', _, hy, hc⟩ := (HR.out.keep (n2.trans nx)).at_ (i := j) (by omega)
            injection e' with e'
            injection e' with e1' e2'
            subst e1' e2'
            have g0 := hc 0 _ rfl
            have g1 := hc 1 _ rfl
            simp only [Nat.add_zero] at g0
            obtain ⟨q, hq⟩ : ∃ q, (y.1 == p1 && y.2 == p2) = q := ⟨_, rfl⟩
            have HY := Lib.hid hy
            have HSQ := Lib.hid (show sameP (p1, p2) y = q by rw [same_comm]; exact hq)
            have i0 : (0 : Int) ≤ (j : Int) := by omega
            have i1 : (j : Int) < (n : Int) := by omega
            clear hy hc
            cases q
            · go_wp2
              (refine wp_region_new (by kernel_rfl) (by kernel_rfl) ?_; (repeat (go_big_quiet_step ((fail)))); refine wpQuiet_nil ?_)
              intro w3 n3
              go_wp2
              go_roundw
              case rel => exact ⟨j + 1, by omega, by go_num, fun j' x hj' hx => by
                rcases Nat.lt_or_ge j' j with h | h
                · exact HJ.out j' x h hx
                · obtain rfl : j' = j := by omega
                  have hxy := HY.out
                  rw [hx] at hxy
                  injection hxy with hxy
                  rw [hxy]
                  exact HSQ.out, nx.trans n3⟩
              case measure => simp [intOf]; omega
            · have HV := Lib.hid (show netS st ps = ((k : Int), 23) by
                rw [HST.out, pe_dbl (by dsimp only; rw [HQ1.out, HQ2.out]; rfl) hlt2 (List.any_eq_true.2 ⟨y, List.mem_take_iff_getElem.2 ⟨j, by have := HL.out; omega, (List.getElem?_eq_some_iff.1 HY.out).2⟩, HSQ.out⟩), if_neg (by decide)])
              go_wp2
              (refine wp_region_new (by kernel_rfl) (by kernel_rfl) ?_; (repeat (go_big_quiet_step ((fail)))); refine wpQuiet_nil ?_)
              intro w3 n3
              go_wp2
              go_ret2
              exact ⟨by rw [HV.out]; rfl, (n2.trans nx).trans n3⟩
          · obtain rfl : j = k := by omega
            have HV := Lib.hid (show netS st ps = netFrom st (ps.take (j + 1)) (ps.drop (j + 1)) ((j + 1 : Nat) : Int) by
              rw [HST.out, pe_ok (by dsimp only; rw [HQ1.out, HQ2.out]; rfl) hlt2 (by
                rw [List.any_eq_false]
                intro x hx
                obtain ⟨i, hi, rfl⟩ := List.getElem_of_mem hx
                rw [List.length_take, HL.out] at hi
                rw [List.getElem_take, HJ.out i _ (by omega) (List.getElem?_eq_getElem _)]
                decide), if_pos rfl])
            go_wp2_with fail
            go_roundw
            case rel => exact ⟨j + 1, by omega, by go_num, HV, b3, n2.trans nx⟩
            case measure => simp [intOf]; omega
      · have HV := Lib.hid (show netS st ps = ((k : Int), 9) by rw [HST.out, pe_ord (by dsimp only; rw [HQ1.out, HQ2.out]; rfl) hlt2, if_neg (by decide)])
        go_wp2_with fail
        go_ret2
        exact ⟨by rw [HV.out]; rfl, n2⟩
    · obtain rfl : k = n := by omega
      have HV := Lib.hid (show netS st ps = (0, 0) by
        rw [HF.out, List.drop_of_length_le (by rw [HL.out]; exact Nat.le_refl _)]; rfl)
      go_wp2_with fail
      go_ret2
      exact ⟨by rw [HV.out]; rfl, hN⟩

set_option maxRecDepth 100000 in
set_option maxHeartbeats 4000000 in
theorem refChk_any (st : Int) (A B : Option Addr) (n cap L lcap : Nat) (ps : List (Int × Int)) (sl : List Int) (w : World) (hn : n ≤ 100000) (hL : L ≤ 1000000) (hr : Rd w 2 encP A n ps) (hs : Rd w 1 encI B L sl)
    (hp : ∀ p ∈ ps, 0 ≤ p.1 ∧ p.1 < p.2 ∧ p.2 < st) :
    Calls Try.prog 53 #[.agg #[.int .i64 st, .slice A n cap], .slice B L lcap] w fun e w' => e = .returned (.tuple #[.int .i64 (chkS st ps sl).1, .int .i64 (chkS st ps sl).2]) ∧ New w w' := by
  have HL := Lib.hid hr.len
  have HM := Lib.hid hs.len
  have HR := Lib.hid hr; clear hr
  have HS := Lib.hid hs; clear hs
  have HP := Lib.hid hp; clear hp
  have b1 := Bx.mk w 75 #[.int .i64 st, .slice A n cap]
  have hN := (New.refl w).alloc (.cells #[.int .i64 st, .slice A n cap] 75)
  have c0 : World.cell? _ _ = some _ := b1.cell 0
  have lb := b1.lt
  by_cases hls : (L : Int) = st
  · have hne : ((L : Int) != st) = false := by simpa using hls
    have HE := Lib.hid hls
    clear hls
    go_enter Try.func53, Try.ntmps53
    go_wp2_with fail
    obtain ⟨W0, hW0⟩ : ∃ W0, w.alloc (.cells #[.int .i64 st, .slice A n cap] 75) = W0 := ⟨_, rfl⟩
    rw [hW0] at b1 hN c0 lb ⊢
    clear hW0
    go_loopw [6] (fun i wr => ∃ k : Nat, k ≤ L ∧ i = .int .i64 (k : Int) ∧ Hid (∀ (j : Nat) x, j < k → sl[j]? = some x → (!inR x 0 7) = false) ∧ wr = W0) (fun i _ => L - (intOf i).toNat)
    case atStart => exact ⟨0, by omega, rfl, (fun j x hj => absurd hj (by omega)), rfl⟩
    case round =>
      obtain ⟨k, hk, rfl, HF, rfl⟩ := hrel
      by_cases hkL : k < L
      · obtain ⟨bb, o, x, rfl, hb, hx, hc⟩ := (HS.out.keep hN).at_ hkL
        have g0 := hc 0 _ rfl
        simp only [Nat.add_zero, Nat.mul_one] at g0
        have HX := Lib.hid hx
        clear hx hc
        obtain ⟨q, hq⟩ : ∃ q, inR x 0 7 = q := ⟨_, rfl⟩
        have HQ := Lib.hid hq
        clear hq
        go_wp2_with fail
        refine (bWithin_any _ _ _ _).mono ?_
        rintro e w' ⟨rfl, rfl⟩
        rw [HQ.out]
        cases q
        · have HV := Lib.hid (show chkS st ps sl = ((k : Int), 2) by
            have h := idxS_hit (fun x => !inR x 0 7) sl k x HX.out (by rw [HQ.out]; rfl) HF.out
            unfold chkS
            rw [if_neg (by rw [HM.out, HE.out]; exact fun h => h rfl), idxZ_S, h, if_pos (by omega)])
          go_wp2_with fail
          go_ret2
          exact ⟨by rw [HV.out]; rfl, hN⟩
        · go_wp2_with fail
          go_roundw
          case rel => exact ⟨k + 1, by omega, by go_num, fun j y hj hy => by
            rcases Nat.lt_or_ge j k with h | h
            · exact HF.out j y h hy
            · obtain rfl : j = k := by omega
              have hxy := HX.out
              rw [hy] at hxy
              injection hxy with hxy
              rw [hxy, HQ.out]
              rfl, trivial⟩
          case measure => simp [intOf]; omega
      · have H1 := Lib.hid (idxS_miss (fun x => !inR x 0 7) sl L HM.out (fun j y hj hy => HF.out j y (by omega) hy))
        go_wp2_with fail
        clear c0 lb
        go_loopw [7] (fun i wx => ∃ k : Nat, k ≤ n ∧ i = .int .i64 (k : Int) ∧ Hid (∀ (j : Nat) x, j < k → ps[j]? = some x → clashP sl x = false) ∧ New wr wx) (fun i _ => n - (intOf i).toNat)
        case atStart => exact ⟨0, by omega, rfl, (fun j x hj => absurd hj (by omega)), New.refl _⟩
        case round =>
          obtain ⟨i, hi, rfl, HC, nx⟩ := hrel
          have b2 := b1.keep nx
          have c0 : World.cell? _ _ = some _ := b2.cell 0
          have c1 : World.cell? _ _ = some _ := b2.cell 1
          have lb := b2.lt
          have hN2 := hN.trans nx
          by_cases hin : i < n
          · obtain ⟨bb, o, p, rfl, hb, hx, hc⟩ := (HR.out.keep hN2).at_ hin
            have g0 := hc 0 _ rfl
            have g1 := hc 1 _ rfl
            simp only [Nat.add_zero] at g0
            have hpp := HP.out p (List.mem_of_getElem? hx)
            rw [← HE.out] at hpp
            have HX := Lib.hid hx
            clear hx hc
            obtain ⟨p1, p2⟩ := p
            dsimp only at g0 g1 hpp
            obtain ⟨a, rfl⟩ : ∃ a : Nat, p1 = (a : Int) := ⟨p1.toNat, by omega⟩
            obtain ⟨c, rfl⟩ : ∃ c : Nat, p2 = (c : Int) := ⟨p2.toNat, by omega⟩
            obtain ⟨ba, oa, x, rfl, hba, hx, hcx⟩ := (HS.out.keep hN2).at_ (i := a) (by omega)
            obtain ⟨bb', ob', y, e, hbb, hy, hcy⟩ := (HS.out.keep hN2).at_ (i := c) (by omega)
            injection e with e
            injection e with e1 e2
            subst e1 e2
            have z0 := hcx 0 _ rfl
            have z1 := hcy 0 _ rfl
            simp only [Nat.add_zero, Nat.mul_one] at z0 z1
            obtain ⟨q, hq⟩ : ∃ q, (x == y) = q := ⟨_, rfl⟩
            have HQ := Lib.hid (show clashP sl ((a : Int), (c : Int)) = q by
              unfold clashP
              dsimp only
              rw [Int.toNat_natCast, Int.toNat_natCast, List.getD_eq_getElem?_getD, List.getD_eq_getElem?_getD, hx, hy]; exact hq)
            have i0 : (0 : Int) ≤ (a : Int) := by omega
            have i1 : (a : Int) < (L : Int) := by omega
            have j0 : (0 : Int) ≤ (c : Int) := by omega
            have j1 : (c : Int) < (L : Int) := by omega
            have m0 : (0 : Int) ≤ (i : Int) := by omega
            have m1 : (i : Int) < (n : Int) := by omega
            clear hx hy hcx hcy hpp
            cases q
            · go_wp2
              (refine wp_region_new (by kernel_rfl) (by kernel_rfl) ?_; (repeat (go_big_quiet_step ((fail)))); refine wpQuiet_nil ?_)
              intro w3 n3
              go_wp2
              go_roundw
              case rel => exact ⟨i + 1, by omega, by go_num, fun j' x hj' hx => by
                rcases Nat.lt_or_ge j' i with h | h
                · exact HC.out j' x h hx
                · obtain rfl : j' = i := by omega
                  have hxy := HX.out
                  rw [hx] at hxy
                  injection hxy with hxy
                  rw [hxy]
                  exact HQ.out, nx.trans n3⟩
              case measure => simp [intOf]; omega
            · have HV := Lib.hid (show chkS st ps sl = ((i : Int), 13) by
                have h := idxS_hit (clashP sl) ps i _ HX.out HQ.out HC.out
                unfold chkS
                rw [if_neg (by rw [HM.out, HE.out]; exact fun h => h rfl), idxZ_S, H1.out, if_neg (by omega), idxZ_S, h, if_pos (by omega)])
              go_wp2
              (refine wp_region_new (by kernel_rfl) (by kernel_rfl) ?_; (repeat (go_big_quiet_step ((fail)))); refine wpQuiet_nil ?_)
              intro w3 n3
              go_wp2
              go_ret2
              exact ⟨by rw [HV.out]; rfl, hN2.trans n3⟩
          · have HV := Lib.hid (show chkS st ps sl = (0, 0) by
              have h := idxS_miss (clashP sl) ps n HL.out (fun j y hj hy => HC.out j y (by omega) hy)
              unfold chkS
              rw [if_neg (by rw [HM.out, HE.out]; exact fun h => h rfl), idxZ_S, H1.out, if_neg (by omega), idxZ_S, h, if_neg (by omega)])
            go_wp2
            go_ret2
            exact ⟨by rw [HV.out]; rfl, hN2⟩
  · have hne : ((L : Int) != st) = true := by simpa using hls
    have HV := Lib.hid (show chkS st ps sl = (0, 10) by unfold chkS; rw [if_pos (by rw [HM.out]; exact hls)])
    clear hls
    go_enter Try.func53, Try.ntmps53
    go_wp2_with fail
    go_ret2
    exact ⟨by rw [HV.out]; rfl, hN⟩
end Go.Proofs.Ytjpkcmlepjbamaa
