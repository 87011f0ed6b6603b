/- The walk of StationSent. -/
import Derived.Test.YtjpkcmlepjbamaaW55
namespace Go.Proofs.Ytjpkcmlepjbamaa
open Go.RowKit Go.Sky

set_option maxRecDepth 100000 in
set_option maxHeartbeats 8000000 in
theorem sent_in (b u : Int) (A : Option Addr) (n cap : Nat) (q : List Sky.Item) (w : World) (hcap : n ≤ cap) (hr : Rd w 4 encM A n q) (hfw : fewI n q = true) :
    Calls Try.prog 11 #[.slice A n cap, .agg #[.int .i64 b, .int .i64 u]] w fun e w' => e = .returned (.bool true) ∧ New w w' := by
  have HL := Lib.hid hr.len
  have HR := Lib.hid hr; clear hr
  have HFW := Lib.hid hfw
  obtain ⟨h22, hsz⟩ := fewI_yes hfw
  have HX := Lib.hid (show ∀ x ∈ q, x.n.size ≤ 1000 from fun x hx => by have := hsz x hx; omega)
  clear hfw hsz
  obtain ⟨E, hE⟩ : ∃ c, (queueS q).2 = c := ⟨_, rfl⟩
  obtain ⟨F, hF⟩ : ∃ c, sentE q b u = c := ⟨_, rfl⟩
  obtain ⟨X, hX⟩ : ∃ c, errU (linkB b u) 2 = c := ⟨_, rfl⟩
  have HFE := Lib.hid (show F = if E = 0 then X else E by rw [← hF, sentE, firstE_two, hE, hX])
  have HE := Lib.hid hE
  have HF := Lib.hid hF
  have HXX := Lib.hid hX
  clear hE hF hX
  have b0 := Bx.mk w 96 #[.int .i64 b, .int .i64 u]
  have N0 := (New.refl w).alloc (.cells #[.int .i64 b, .int .i64 u] 96)
  go_enter Try.func11, Try.ntmps11
  go_wp2_with fail
  refine (awake_any _).mono ?_
  rintro e w1 ⟨rfl, n1⟩
  have b1 := b0.keep n1
  have N1 := N0.trans n1
  clear b0 N0 n1
  have c0 : w1.cell? ⟨w.heap.size, 0, none⟩ = some (.int .i64 b) := b1.cell 0
  have c1 : w1.cell? ⟨w.heap.size, 1, none⟩ = some (.int .i64 u) := b1.cell 1
  have l1 := b1.lt
  go_wp2_with fail
  refine (fewItems_any A n cap q _ (HR.out.keep N1)).mono ?_
  rintro e w' ⟨rfl, rfl⟩
  rw [HFW.out]
  go_wp2
  refine wp_region_takes0 w1 (New.refl _) 1 8 #[true, false, false, false, false, false, false, false, false] (by kernel_rfl) (by kernel_rfl) (by kernel_rfl) (by kernel_rfl) (by kernel_rfl) (by kernel_rfl) ?_
  simp only [List.take_succ_cons, List.take_zero]
  (repeat (go_big_quiet_step ((fail))))
  refine wpQuiet_nil ?_
  intro W1 n1
  refine take_next 2 1 #[true, false, true, false, false, false, false, false, false] rfl (by kernel_rfl) (by kernel_rfl) (by kernel_rfl) (by kernel_rfl) (by decide) ?_
  simp only [List.take_succ_cons, List.take_zero, List.drop_succ_cons, List.drop_zero]
  (repeat (go_big_quiet_step ((fail))))
  refine wpQuiet_nil ?_
  refine one_next 1 (by kernel_rfl) (new_plus n1) (wpOpIn_list rfl ?_)
  gi_wp2_with fail
  refine ⟨trivial, callsIn_wide.2 ((copyItems_any A n cap q _ (by omega) (HR.out.keep (N1.trans n1))).mono ?_)⟩
  rintro e w2 ⟨A2, c2, rfl, o2, n2⟩
  have hc2 := o2.le.1
  have HR2 := Lib.hid o2.rd
  have nn2 := n1.trans n2
  clear o2 n1 n2
  gi_wp2
  refine one_next 3 (by kernel_rfl) (new_plus nn2) (wpOpIn_list rfl ?_)
  gi_wp2_with fail
  refine ⟨trivial, callsIn_wide.2 ((sentBy_any b u q A2 n c2 _ (by omega) hc2 HX.out HR2.out).mono ?_)⟩
  rw [HF.out]
  rintro e w3 ⟨n3, ⟨hne, rfl⟩ | ⟨heq, A', c', rfl, hrd⟩⟩
  · have nn3 := nn2.trans n3
    have HNE := Lib.hid hne
    have dF : (F != 0) = true := by simpa using hne
    have dFF : (F == F) = true := by simp
    clear hne nn2 n3 HR2
    gi_wp2
    refine take_next 4 5 #[true, true, true, true, true, true, true, true, true] rfl (by kernel_rfl) (by kernel_rfl) (by kernel_rfl) (by kernel_rfl) (by decide) ?_
    simp only [List.take_succ_cons, List.take_zero, List.drop_succ_cons, List.drop_zero]
    (repeat (go_big_quiet_step ((fail))))
    refine wpQuiet_nil ?_
    refine end_any (new_plus nn3) (by kernel_rfl) ?_
    go_wp2_with fail
    refine (refQueueErr_any A n cap q _ (by omega) hcap HX.out (HR.out.keep (N1.trans nn3))).mono ?_
    rw [HE.out]
    rintro e w4 ⟨rfl, n4⟩
    have nn4 := nn3.trans n4
    have N4 := N1.trans nn4
    have b4 := b1.keep nn4
    have c0 : w4.cell? ⟨w.heap.size, 0, none⟩ = some (.int .i64 b) := b4.cell 0
    have c1 : w4.cell? ⟨w.heap.size, 1, none⟩ = some (.int .i64 u) := b4.cell 1
    have l4 := b4.lt
    by_cases h0 : E = 0
    · have dE : (E == 0) = true := by simpa using h0
      obtain rfl : F = X := by rw [HFE.out, if_pos h0]
      clear h0
      go_wp2_with fail
      refine (refLink_any b u _).mono ?_
      rw [HXX.out]
      rintro e w5 ⟨rfl, n5⟩
      go_wp2
      go_ret
      exact ⟨rfl, N4.trans n5⟩
    · have dE : (E == 0) = false := by simpa using h0
      obtain rfl : F = E := by rw [HFE.out, if_neg h0]
      clear h0
      go_wp2
      go_ret
      exact ⟨rfl, N4⟩
  · have nn3 := nn2.trans n3
    have HRL := Lib.hid hrd
    clear hrd nn2 n3 HR2
    subst heq
    have hE0 : E = 0 := by
      have h := HFE.out
      by_cases h1 : E = 0
      · exact h1
      · rw [if_neg h1] at h; exact absurd h.symm h1
    have hX0 : X = 0 := by
      have h := HFE.out
      rw [if_pos hE0] at h; exact h.symm
    subst hE0 hX0
    gi_wp2
    refine take_next 4 5 #[true, true, true, true, true, true, true, true, true] rfl (by kernel_rfl) (by kernel_rfl) (by kernel_rfl) (by kernel_rfl) (by decide) ?_
    simp only [List.take_succ_cons, List.take_zero, List.drop_succ_cons, List.drop_zero]
    (repeat (go_big_quiet_step ((fail))))
    refine wpQuiet_nil ?_
    refine end_any (new_plus nn3) (by kernel_rfl) ?_
    go_wp2_with fail
    refine (refQueueErr_any A n cap q _ (by omega) hcap HX.out (HR.out.keep (N1.trans nn3))).mono ?_
    rw [HE.out]
    rintro e w4 ⟨rfl, n4⟩
    have nn4 := nn3.trans n4
    have N4 := N1.trans nn4
    have b4 := b1.keep nn4
    have HRL4 := Lib.hid (HRL.out.keep n4)
    clear c0 c1 l1 b1 HRL nn3 n4 N1 nn4
    have c0 : w4.cell? ⟨w.heap.size, 0, none⟩ = some (.int .i64 b) := b4.cell 0
    have c1 : w4.cell? ⟨w.heap.size, 1, none⟩ = some (.int .i64 u) := b4.cell 1
    have l4 := b4.lt
    go_wp2_with fail
    refine (refLink_any b u _).mono ?_
    rw [HXX.out]
    rintro e w5 ⟨rfl, n5⟩
    have N5 := N4.trans n5
    have b5 := b4.keep n5
    have HRL5 := Lib.hid (HRL4.out.keep n5)
    clear c0 c1 l4 b4 HRL4 n5 N4
    have c0 : w5.cell? ⟨w.heap.size, 0, none⟩ = some (.int .i64 b) := b5.cell 0
    have c1 : w5.cell? ⟨w.heap.size, 1, none⟩ = some (.int .i64 u) := b5.cell 1
    have l5 := b5.lt
    go_wp2_with fail
    refine (refSent_any b u q A n cap _ (HR.out.keep N5) HF.out).mono ?_
    rintro e w6 ⟨n6, A6, c6, rfl, hrd6⟩
    have HRD6 := Lib.hid hrd6
    clear hrd6
    go_wp2_with fail
    refine (ints_any A' A6 n n c' c6 _ _ _ (by omega) (by omega) (HRL5.out.keep n6) HRD6.out).mono ?_
    rintro e w7 ⟨rfl, n7⟩
    rw [decide_eq_true rfl]
    have n67 := n6.trans n7
    go_wp2_with fail
    refine (refOrderOwn_any q A n cap _ (by omega) (HR.out.keep (N5.trans n67))).mono ?_
    rintro e w8 ⟨A8, c8, rfl, o8, n8⟩
    have n68 := n67.trans n8
    have N8 := N5.trans n68
    have b8 := b5.keep n68
    have HRL8 := Lib.hid (HRL5.out.keep n68)
    have HO8 := Lib.hid o8.rd
    clear c0 c1 l5 b5 HRL5 n6 n7 n67 n8 n68 N5 o8 HRD6
    have hq0 := HE.out
    have h20 : n ≤ 20 := by rw [← HL.out]; exact queueS_small hq0
    have HQ0 := Lib.hid hq0
    clear hq0
    obtain ⟨hb, hu⟩ : (0 ≤ b ∧ b ≤ 1000000000000) ∧ (1 ≤ u ∧ u ≤ 10000) := by
      have h := HXX.out
      unfold linkB at h
      cases h2 : tick b <;> cases h3 : inR u 1 10000 <;> rw [h2, h3] at h <;> simp [errU] at h
      unfold tick inR at h2
      unfold inR at h3
      exact ⟨of_decide_eq_true h2, of_decide_eq_true h3⟩
    obtain ⟨hb1, hb2⟩ := hb
    obtain ⟨hu1, hu2⟩ := hu
    obtain ⟨O, hO⟩ : ∃ O, sortQ q n = O := ⟨_, rfl⟩
    have HOm := Lib.hid (show ∀ y ∈ O, y < n by rw [← hO]; exact fun y hy => (sortQ_mem q n y).1 hy)
    have HOL := Lib.hid (show O.length = n by rw [← hO]; exact sortQ_len q n)
    have HSA := Lib.hid (sent_at (q := q) (b := b) (u := u) (n := n) HOL.out HOm.out (by rw [← hO]; exact sortQ_nodup q n) n (Nat.le_refl _))
    rw [hO] at HRL8 HO8
    clear hO
    go_wp2_with fail
    go_loopw [9, 10] (fun sv i wr => ∃ k : Nat, k ≤ n ∧ i = .int .i64 (k : Int) ∧ sv = .int .i64 (sumTo q O k) ∧ New w8 wr) (fun _ i _ => n - (intOf i).toNat)
    case atStart => exact ⟨0, by omega, rfl, rfl, New.refl _⟩
    case round =>
      obtain ⟨k, hk, rfl, rfl, nr⟩ := hrel
      have br := b8.keep nr
      have Nr := N8.trans nr
      have c0 : wr.cell? ⟨w.heap.size, 0, none⟩ = some (.int .i64 b) := br.cell 0
      have c1 : wr.cell? ⟨w.heap.size, 1, none⟩ = some (.int .i64 u) := br.cell 1
      have lb := br.lt
      by_cases hlt : k < n
      · obtain ⟨bO, oO, y, rfl, hbO, hy, hcO⟩ := (HO8.out.keep nr).at_ hlt
        have go0 := hcO 0 _ rfl
        simp only [Nat.add_zero, Nat.mul_one] at go0
        have hyn := HOm.out y (List.mem_of_getElem? hy)
        have HGD := Lib.hid (show O.getD k 0 = y by rw [List.getD_eq_getElem?_getD, hy]; rfl)
        obtain ⟨bq, oq, x, rfl, hbq, hx, hcq⟩ := (HR.out.keep Nr).at_ hyn
        have gq := hcq 2 _ rfl
        have hsl := HSA.out k hlt
        rw [HGD.out] at hsl
        obtain ⟨bl, ol, v, rfl, hbl, hv, hcl⟩ := (HRL8.out.keep nr).at_ hyn
        rw [hsl] at hv
        injection hv with hv
        have gl := hcl 0 _ rfl
        simp only [Nat.add_zero, Nat.mul_one] at gl
        rw [← hv] at gl
        have hsum := sumTo_in HQ0.out O k
        have hsum2 := sumTo_in HQ0.out O (k + 1)
        have HSE := Lib.hid (show sumTo q O (k + 1) = sumTo q O k + x.z by rw [sumTo, HGD.out, zAt_of hx])
        rw [HSE.out] at hsum2 gl
        obtain ⟨S, hS⟩ : ∃ S, sumTo q O k = S := ⟨_, rfl⟩
        rw [hS] at HSE hsum hsum2 gl ⊢
        clear hS hsl hv hcl
        obtain ⟨s0, s1⟩ := hsum
        obtain ⟨s2, s3⟩ := hsum2
        obtain ⟨p0, p1⟩ := up_in (s := S + x.z) (u := u) s2 hu1
        obtain ⟨r0, r1, r2⟩ := up_law (s := S + x.z) (u := u) hu1
        obtain ⟨U, hU⟩ : ∃ U, upS (S + x.z) u = U := ⟨_, rfl⟩
        rw [hU] at p0 p1 r0 r1 r2 gl
        clear hU
        have i0' : (0 : Int) ≤ (y : Int) := by omega
        have i1' : (y : Int) < (n : Int) := by omega
        have j0' : (0 : Int) ≤ (k : Int) := by omega
        have j1' : (k : Int) < (n : Int) := by omega
        have q1 : b + U - b = U := by omega
        clear hy hcO hx hcq
        go_wp2
        (refine wp_region_new (by kernel_rfl) (by kernel_rfl) ?_; (repeat (go_big_quiet_step ((fail)))); refine wpQuiet_nil ?_)
        intro w2 n2
        have e0 := n2.cell c0
        have e1 := n2.cell c1
        have lb2 := (br.keep n2).lt
        have m0 : 0 ≤ U * u := Int.mul_nonneg p0 (by omega)
        have m1 : U * u ≤ 1000000 := by omega
        have ek : (U - 1) * u = U * u - u := by rw [Int.sub_mul, Int.one_mul]
        have k0 : -1000000 ≤ (U - 1) * u := by omega
        have k1 : (U - 1) * u ≤ 1000000 := by omega
        have d1 : decide (U * u < S + x.z) = false := decide_eq_false (by omega)
        have d2 : decide (S + x.z ≤ (U - 1) * u) = false := decide_eq_false (by omega)
        clear ek c0 c1 go0 gq gl
        go_wp2
        go_roundw
        case rel => exact ⟨k + 1, by omega, by go_num, by rw [HSE.out], nr.trans n2⟩
        case measure => simp [intOf]; omega
      · obtain rfl : k = n := by omega
        go_wp2
        go_ret
        exact ⟨rfl, Nr⟩

set_option maxRecDepth 100000 in
set_option maxHeartbeats 1000000 in
theorem sent_any (b u : Int) (A : Option Addr) (n cap : Nat) (q : List Sky.Item) (w : World) (hcap : n ≤ cap) (hr : Rd w 4 encM A n q) :
    Calls Try.prog 11 #[.slice A n cap, .agg #[.int .i64 b, .int .i64 u]] w fun e w' => e = .returned (.bool true) ∧ New w w' := by
  obtain ⟨fw, hfw⟩ : ∃ b, fewI n q = b := ⟨_, rfl⟩
  cases fw
  · have HFW := Lib.hid hfw
    have HR := Lib.hid hr
    clear hfw hr
    have N0 := (New.refl w).alloc (.cells #[.int .i64 b, .int .i64 u] 96)
    go_enter Try.func11, Try.ntmps11
    go_wp2_with fail
    refine (awake_any _).mono ?_
    rintro e w1 ⟨rfl, n1⟩
    have N1 := N0.trans n1
    go_wp2_with fail
    refine (fewItems_any A n cap q _ (HR.out.keep N1)).mono ?_
    rintro e w' ⟨rfl, rfl⟩
    rw [HFW.out]
    go_wp2
    go_ret
    exact ⟨rfl, N1⟩
  · exact sent_in b u A n cap q w hcap hr hfw
end Go.Proofs.Ytjpkcmlepjbamaa
