/- The walk of StationPlans. -/
import Derived.Test.YtjpkcmlepjbamaaW41
import Derived.Test.YtjpkcmlepjbamaaW15
namespace Go.Proofs.Ytjpkcmlepjbamaa
open Go.RowKit Go.Sky

/-- The first plan with the fewest slots is one. -/
theorem plan_one {ms : List Nat} {s k k' : Nat} {r r' : List Int} (h1 : 1 ≤ k) (h1' : 1 ≤ k') (hno : ∀ j, 1 ≤ j → j < k → planF ms j s [] = none) (hno' : ∀ j, 1 ≤ j → j < k' → planF ms j s [] = none)
    (hr : planF ms k s [] = some r) (hr' : planF ms k' s [] = some r') : k = k' ∧ r = r' := by
  have hk : k = k' := by
    rcases Nat.lt_trichotomy k k' with h | h | h
    · have := hno' k h1 h; rw [hr] at this; cases this
    · exact h
    · have := hno k' h1' h; rw [hr'] at this; cases this
  subst hk
  rw [hr] at hr'
  injection hr' with hr'
  exact ⟨rfl, hr'⟩

set_option maxRecDepth 100000 in
set_option maxHeartbeats 8000000 in
theorem plans_in (st : Int) (A B : Option Addr) (n cap L lcap : Nat) (ps : List (Int × Int)) (sl : List Int) (w : World) (hn : n ≤ 30) (hL : L ≤ 10) (hr : Rd w 2 encP A n ps) (hs : Rd w 1 encI B L sl) :
    Calls Try.prog 9 #[.agg #[.int .i64 st, .slice A n cap], .slice B L lcap] w fun e w' => e = .returned (.bool true) ∧ New w w' := by
  have HR := Lib.hid hr; clear hr
  have HS := Lib.hid hs; clear hs
  have b0 := Bx.mk w 75 #[.int .i64 st, .slice A n cap]
  have n0 := (New.refl w).alloc (.cells #[.int .i64 st, .slice A n cap] 75)
  go_enter Try.func9, Try.ntmps9
  go_wp2_with fail
  refine (awake_any _).mono ?_
  rintro e w1 ⟨rfl, n1⟩
  have b := b0.keep n1
  have nw := n0.trans n1
  clear b0 n0 n1
  have c0 : w1.cell? _ = some _ := b.cell 0
  have c1 : w1.cell? _ = some _ := b.cell 1
  have lb := b.lt
  go_wp2_with fail
  refine (copyNet_any st A n cap ps _ (by omega) (HR.out.keep nw)).mono ?_
  rintro e w2 ⟨A2, k2, rfl, hk2, hr2, n2⟩
  go_wp2_with fail
  refine (checkNet_any st A2 n k2 ps _ (by omega) hk2 hr2).mono ?_
  rintro e w3 ⟨rfl, n3⟩
  have b' := (b.keep n2).keep n3
  have nw' := (nw.trans n2).trans n3
  clear b nw n2 n3 hr2 hk2 c0 c1 lb
  have c0 : w3.cell? _ = some _ := b'.cell 0
  have c1 : w3.cell? _ = some _ := b'.cell 1
  have lb := b'.lt
  go_wp2_with fail
  refine (copyNet_any st A n cap ps _ (by omega) (HR.out.keep nw')).mono ?_
  rintro e w4 ⟨A4, k4, rfl, hk4, hr4, n4⟩
  go_wp2_with fail
  refine (copyInts_any B L lcap sl _ (by omega) (HS.out.keep (nw'.trans n4))).mono ?_
  rintro e w5 ⟨A5, k5, rfl, hown5, n5⟩
  go_wp2_with fail
  refine (checkPlan_any st A4 A5 n k4 L k5 ps sl _ (by omega) hk4 (by omega) (hr4.keep n5) hown5.rd).mono ?_
  rintro e w6 ⟨rfl, n6⟩
  have b := ((b'.keep n4).keep n5).keep n6
  have nw := ((nw'.trans n4).trans n5).trans n6
  clear b' nw' n4 n5 n6 hr4 hk4 hown5 c0 c1 lb
  have c0 : w6.cell? _ = some _ := b.cell 0
  have c1 : w6.cell? _ = some _ := b.cell 1
  have lb := b.lt
  go_wp2_with fail
  refine (copyNet_any st A n cap ps _ (by omega) (HR.out.keep nw)).mono ?_
  rintro e w7 ⟨A7, k7, rfl, hk7, hr7, n7⟩
  go_wp2_with fail
  refine (planFor_any st A7 n k7 ps _ (by omega) hk7 hr7).mono ?_
  rintro e w8 ⟨n8, hplan⟩
  have b' := (b.keep n7).keep n8
  have nw' := (nw.trans n7).trans n8
  clear b nw n7 n8 hr7 hk7 c0 c1 lb
  have c0 : w8.cell? _ = some _ := b'.cell 0
  have c1 : w8.cell? _ = some _ := b'.cell 1
  have lb := b'.lt
  rcases hplan with ⟨hbad, rfl⟩ | ⟨hz, A8, m8, k8, cnt, r, rfl, hr8, hc1, hc2, hno, hyes⟩
  · have HBAD := Lib.hid hbad
    have HF := Lib.hid (show chkF st ps sl = (0, (netS st ps).2) by unfold chkF; rw [if_pos hbad])
    rw [HF.out]
    have dd : ((netS st ps).2 != 0) = true := by simpa using hbad
    clear hbad
    obtain ⟨⟨na, ne⟩, hne⟩ : ∃ Z, netS st ps = Z := ⟨_, rfl⟩
    rw [hne] at dd ⊢
    have HNE := Lib.hid hne
    clear hne
    dsimp only at dd ⊢
    go_wp2_with fail
    refine (copyNet_any st A n cap ps _ (by omega) (HR.out.keep nw')).mono ?_
    rintro e w9 ⟨A9, k9, rfl, hk9, hr9, n9⟩
    go_wp2_with fail
    refine (groupOf_any st A9 n k9 ps _ (by omega) hk9 hr9).mono ?_
    rintro e w10 ⟨n10, ⟨_, rfl⟩ | ⟨h0, _⟩⟩
    · have b := (b'.keep n9).keep n10
      have nw := (nw'.trans n9).trans n10
      clear b' nw' n9 n10 hr9 hk9 c0 c1 lb
      have c0 : w10.cell? _ = some _ := b.cell 0
      have c1 : w10.cell? _ = some _ := b.cell 1
      have lb := b.lt
      rw [HNE.out]
      dsimp only
      have d1 : (ne != ne) = false := by simp
      have d2 : (na != na) = false := by simp
      have d3 : (ne == ne) = true := by simp
      go_wp2_with fail
      refine (refNet_any st A n cap ps _ (by omega) (HR.out.keep nw)).mono ?_
      rintro e w11 ⟨rfl, n11⟩
      rw [HNE.out]
      dsimp only
      go_wp2_with fail
      go_ret
      exact ⟨rfl, nw.trans n11⟩
    · exact absurd h0 HBAD.out
  · have HZ := Lib.hid hz
    have HF := Lib.hid (show chkF st ps sl = chkS st ps sl by unfold chkF; rw [if_neg (by rw [hz]; decide)])
    have HP := Lib.hid (netS_zero hz).2.2.2
    have HN1 := Lib.hid hno
    have HY := Lib.hid hyes
    have HOK := Lib.hid (show chkF st ps r = (0, 0) by unfold chkF; rw [if_neg (by rw [hz]; decide)]; exact chk_ok hz hyes (by have := netS_zero hz; omega))
    have hBL := best_le (N := 2 ^ st.toNat) hyes
    have hm8 : m8 ≤ 8 := by rw [← hr8.len, (planF_right hyes).2]; have := netS_zero hz; omega
    have HR8 := Lib.hid hr8
    rw [HF.out]
    obtain ⟨⟨ka, ke⟩, hke⟩ : ∃ Z, chkS st ps sl = Z := ⟨_, rfl⟩
    rw [hke]
    have HKE := Lib.hid hke
    obtain ⟨na, hna⟩ : ∃ na, netS st ps = (na, 0) := ⟨(netS st ps).1, by rw [← hz]⟩
    rw [hna]
    have HNE := Lib.hid hna
    clear hz hno hyes hr8 hke hna
    dsimp only
    have d1 : (ke != ke) = false := by simp
    have d2 : (ka != ka) = false := by simp
    have d3 : (na != na) = false := by simp
    go_wp2_with fail
    refine (copyNet_any st A n cap ps _ (by omega) (HR.out.keep nw')).mono ?_
    rintro e w9 ⟨A9, k9, rfl, hk9, hr9, n9⟩
    go_wp2_with fail
    refine (groupOf_any st A9 n k9 ps _ (by omega) hk9 hr9).mono ?_
    rintro e w10 ⟨n10, ⟨h0, _⟩ | ⟨_, A10, m10, k10, rfl, hr10⟩⟩
    · exact absurd HZ.out h0
    have HR10 := Lib.hid hr10
    rw [hr10.len] at hBL
    have b := (b'.keep n9).keep n10
    have nw := (nw'.trans n9).trans n10
    have HR8' := Lib.hid (HR8.out.keep (n9.trans n10))
    clear b' nw' n9 n10 hr9 hk9 hr10 HR8 c0 c1 lb
    have c0 : w10.cell? _ = some _ := b.cell 0
    have c1 : w10.cell? _ = some _ := b.cell 1
    have lb := b.lt
    go_wp2_with fail
    refine (refNet_any st A n cap ps _ (by omega) (HR.out.keep nw)).mono ?_
    rintro e w11 ⟨rfl, n11⟩
    rw [HNE.out]
    dsimp only
    have b' := b.keep n11
    have nw' := nw.trans n11
    have HRX := Lib.hid (HR10.out.keep n11)
    have HRL := Lib.hid (HR8'.out.keep n11)
    clear b nw n11 HR8' HR10 c0 c1 lb
    have c0 : w11.cell? _ = some _ := b'.cell 0
    have c1 : w11.cell? _ = some _ := b'.cell 1
    have lb := b'.lt
    go_wp2_with fail
    refine (refPlanFor_any st A n cap ps _ (by omega) (HR.out.keep nw') HZ.out).mono ?_
    rintro e w12 ⟨n12, A12, m12, k12, cnt', r', rfl, hr12, hd1, hd2, hno', hyes'⟩
    obtain ⟨rfl, rfl⟩ := plan_one hc1 hd1 HN1.out hno' HY.out hyes'
    have HR12 := Lib.hid hr12
    have hm12 : m12 ≤ 8 := by rw [← hr12.len, (planF_right hyes').2]; have := netS_zero HZ.out; omega
    have b := b'.keep n12
    have nw := nw'.trans n12
    have HRX' := Lib.hid (HRX.out.keep n12)
    have HRL' := Lib.hid (HRL.out.keep n12)
    clear b' nw' n12 HRX HRL c0 c1 lb hr12 hno' hyes'
    have c0 : w12.cell? _ = some _ := b.cell 0
    have c1 : w12.cell? _ = some _ := b.cell 1
    have lb := b.lt
    go_wp2_with fail
    refine (refChk_any st A B n cap L lcap ps sl _ (by omega) (by omega) (HR.out.keep nw) (HS.out.keep nw) HP.out).mono ?_
    rintro e w13 ⟨rfl, n13⟩
    rw [HKE.out]
    dsimp only
    have b' := b.keep n13
    have nw' := nw.trans n13
    have HRX := Lib.hid (HRX'.out.keep n13)
    have HRL := Lib.hid (HRL'.out.keep n13)
    have HRW := Lib.hid (HR12.out.keep n13)
    clear b nw n13 HRX' HRL' HR12 c0 c1 lb
    have c0 : w13.cell? _ = some _ := b'.cell 0
    have c1 : w13.cell? _ = some _ := b'.cell 1
    have lb := b'.lt
    have d4 : ((cnt : Int) != (cnt : Int)) = false := by simp
    go_wp2_with fail
    refine (ints_is true A8 A12 m8 m12 k8 k12 r r _ (by omega) (by omega) HRL.out HRW.out (by simp)).mono ?_
    rintro e w14 ⟨rfl, n14⟩
    have b := b'.keep n14
    have nw := nw'.trans n14
    have HRX' := Lib.hid (HRX.out.keep n14)
    have HRL' := Lib.hid (HRL.out.keep n14)
    clear b' nw' n14 HRX HRL HRW c0 c1 lb
    have c0 : w14.cell? _ = some _ := b.cell 0
    have c1 : w14.cell? _ = some _ := b.cell 1
    have lb := b.lt
    go_wp2_with fail
    refine (refGroup_any st A n cap ps _ (by omega) (HR.out.keep nw) HZ.out).mono ?_
    rintro e w15 ⟨n15, A15, m15, k15, rfl, hr15⟩
    have hst8 : st.toNat ≤ 8 := by have := netS_zero HZ.out; omega
    have hm15 : m15 ≤ 1000 := by rw [← hr15.len, HRX'.out.len]; omega
    have hm10 : m10 ≤ 1000 := by omega
    have HR15 := Lib.hid hr15
    have b' := b.keep n15
    have nw' := nw.trans n15
    have HRX := Lib.hid (HRX'.out.keep n15)
    have HRL := Lib.hid (HRL'.out.keep n15)
    clear b nw n15 HRX' HRL' c0 c1 lb hr15
    go_wp2_with fail
    refine (ints_is true A10 A15 m10 m15 k10 k15 _ _ _ (by omega) (by omega) HRX.out HR15.out (by simp)).mono ?_
    rintro e w16 ⟨rfl, n16⟩
    have b := b'.keep n16
    have nw := nw'.trans n16
    have HRL' := Lib.hid (HRL.out.keep n16)
    clear b' nw' n16 HRX HRL HR15
    have c0 : w16.cell? _ = some _ := b.cell 0
    have c1 : w16.cell? _ = some _ := b.cell 1
    have lb := b.lt
    go_wp2_with fail
    refine (copyNet_any st A n cap ps _ (by omega) (HR.out.keep nw)).mono ?_
    rintro e w17 ⟨A17, k17, rfl, hk17, hr17, n17⟩
    go_wp2_with fail
    refine (copyInts_any A8 m8 k8 r _ (by omega) (HRL'.out.keep n17)).mono ?_
    rintro e w18 ⟨A18, k18, rfl, hown18, n18⟩
    go_wp2_with fail
    refine (checkPlan_any st A17 A18 n k17 m8 k18 ps r _ (by omega) hk17 (by omega) (hr17.keep n18) hown18.rd).mono ?_
    rintro e w19 ⟨rfl, n19⟩
    rw [HOK.out]
    go_wp2_with fail
    go_ret
    exact ⟨rfl, ((nw.trans n17).trans n18).trans n19⟩

set_option maxRecDepth 100000 in
set_option maxHeartbeats 1000000 in
theorem plans_any (st : Int) (A B : Option Addr) (n cap L lcap : Nat) (ps : List (Int × Int)) (sl : List Int) (w : World) (hr : Rd w 2 encP A n ps) (hs : Rd w 1 encI B L sl) :
    Calls Try.prog 9 #[.agg #[.int .i64 st, .slice A n cap], .slice B L lcap] w fun e w' => e = .returned (.bool true) ∧ New w w' := by
  by_cases hn : n ≤ 30
  · by_cases hL : L ≤ 10
    · exact plans_in st A B n cap L lcap ps sl w hn hL hr hs
    · have b0 := Bx.mk w 75 #[.int .i64 st, .slice A n cap]
      have n0 := (New.refl w).alloc (.cells #[.int .i64 st, .slice A n cap] 75)
      clear hr hs
      go_enter Try.func9, Try.ntmps9
      go_wp2_with fail
      refine (awake_any _).mono ?_
      rintro e w1 ⟨rfl, n1⟩
      have b := b0.keep n1
      have nw := n0.trans n1
      have c0 : w1.cell? _ = some _ := b.cell 0
      have c1 : w1.cell? _ = some _ := b.cell 1
      have lb := b.lt
      clear b0 n0 n1
      go_wp2_with fail
      go_ret
      exact ⟨rfl, nw⟩
  · have b0 := Bx.mk w 75 #[.int .i64 st, .slice A n cap]
    have n0 := (New.refl w).alloc (.cells #[.int .i64 st, .slice A n cap] 75)
    clear hr hs
    go_enter Try.func9, Try.ntmps9
    go_wp2_with fail
    refine (awake_any _).mono ?_
    rintro e w1 ⟨rfl, n1⟩
    have b := b0.keep n1
    have nw := n0.trans n1
    have c0 : w1.cell? _ = some _ := b.cell 0
    have c1 : w1.cell? _ = some _ := b.cell 1
    have lb := b.lt
    clear b0 n0 n1
    go_wp2_with fail
    go_ret
    exact ⟨rfl, nw⟩
end Go.Proofs.Ytjpkcmlepjbamaa
