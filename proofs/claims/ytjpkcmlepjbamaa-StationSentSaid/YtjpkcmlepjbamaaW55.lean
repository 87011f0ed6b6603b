/- Contracts: the reference of what is sent: QueueErr, LinkErr, SentBy. -/
import Derived.Test.YtjpkcmlepjbamaaW54
namespace Go.Proofs.Ytjpkcmlepjbamaa
open Go.RowKit Go.Sky

theorem refQueueErr_any (A : Option Addr) (n cap : Nat) (q : List Sky.Item) (w : World) (hn : n ≤ 1000000) (hcap : n ≤ cap) (hx : ∀ x ∈ q, x.n.size ≤ 1000) (hr : Rd w 4 encM A n q) :
    Calls Try.prog 62 #[.slice A n cap] w fun e w' => e = .returned (.int .i64 (queueS q).2) ∧ New w w' := by
  have HR := Lib.hid hr; clear hr
  have HX := Lib.hid hx; clear hx
  go_enter Try.func62, Try.ntmps62
  go_wp2_with fail
  refine (refQ_any A n cap q _ hn hcap HX.out HR.out).mono ?_
  rintro e w' ⟨rfl, n1⟩
  go_wp2
  go_ret
  exact ⟨rfl, n1⟩

theorem refLink_any (b u : Int) (w : World) :
    Calls Try.prog 63 #[.agg #[.int .i64 b, .int .i64 u]] w fun e w' => e = .returned (.int .i64 (errU (linkB b u) 2)) ∧ New w w' := by
  have b0 := Bx.mk w 96 #[.int .i64 b, .int .i64 u]
  have hN0 := (New.refl w).alloc (.cells #[.int .i64 b, .int .i64 u] 96)
  have c0 : World.cell? _ ⟨w.heap.size, 0, none⟩ = some (.int .i64 b) := b0.cell 0
  have c1 : World.cell? _ ⟨w.heap.size, 1, none⟩ = some (.int .i64 u) := b0.cell 1
  have l0 := b0.lt
  obtain ⟨X, HX, hc⟩ : ∃ X, Hid (linkB b u = X) ∧ ((tick b = false ∧ X = false) ∨ (tick b = true ∧ inR u 1 10000 = X)) := by
    refine ⟨_, rfl, ?_⟩
    unfold linkB
    cases tick b
    · exact .inl ⟨rfl, rfl⟩
    · exact .inr ⟨rfl, rfl⟩
  rw [HX.out]
  rcases hc with ⟨ht, rfl⟩ | ⟨ht, hu⟩
  · go_enter Try.func63, Try.ntmps63
    go_wp2_with (go_at_call 81; refine (bIsTick_is _ _ _ ht).mono ?_; rintro e w' ⟨rfl, rfl⟩)
    go_ret
    exact ⟨rfl, hN0⟩
  · go_enter Try.func63, Try.ntmps63
    cases X
    all_goals
      go_wp2_with (first | (go_at_call 81; refine (bIsTick_is _ _ _ ht).mono ?_; rintro e w' ⟨rfl, rfl⟩) | (go_at_call 20; refine (bWithin_is _ _ _ _ _ hu).mono ?_; rintro e w' ⟨rfl, rfl⟩))
      go_ret
      exact ⟨rfl, hN0⟩

theorem Ceil_up (n b : Int) (w : World) (hb : 1 ≤ b) (hb1 : b ≤ 1000000000) (hn : -4000000000000000 ≤ n) (hn1 : n ≤ 4000000000000000) :
    Calls Try.prog 26 #[.int .i64 n, .int .i64 b] w fun e w' => e = .returned (.int .i64 (upS n b)) ∧ w = w' := by
  have h := Ceil_any n b w hb hb1 hn hn1
  rw [ceil_up (by omega)] at h
  exact h

set_option maxRecDepth 100000 in
set_option maxHeartbeats 4000000 in
theorem refSent_any (b u : Int) (q : List Sky.Item) (A : Option Addr) (n cap : Nat) (w : World) (hr : Rd w 4 encM A n q) (hz : sentE q b u = 0) :
    Calls Try.prog 64 #[.slice A n cap, .agg #[.int .i64 b, .int .i64 u]] w fun e w' => New w w' ∧ ∃ A' c', e = .returned (.slice A' n c') ∧ Rd w' 1 encI A' n (sentTo q (sortQ q n) b u n n) := by
  obtain ⟨i0, hi, hz0, hz1, hz2⟩ := info_parts infoInt
  have HL := Lib.hid hr.len
  have HR := Lib.hid hr; clear hr
  obtain ⟨hq0, ht, hu⟩ : (queueS q).2 = 0 ∧ tick b = true ∧ inR u 1 10000 = true := by
    unfold sentE linkB at hz
    rw [firstE_two] at hz
    by_cases h1 : (queueS q).2 = 0
    · rw [if_pos h1] at hz
      refine ⟨h1, ?_⟩
      cases h2 : tick b <;> cases h3 : inR u 1 10000 <;> rw [h2, h3] at hz <;> simp [errU] at hz ⊢
    · rw [if_neg h1] at hz; exact absurd hz h1
  clear hz
  have h20 : n ≤ 20 := by rw [← HL.out]; exact queueS_small hq0
  have HQ0 := Lib.hid hq0
  clear hq0
  have hu1 : 1 ≤ u ∧ u ≤ 10000 := by unfold inR at hu; exact of_decide_eq_true hu
  have htb : 0 ≤ b ∧ b ≤ 1000000000000 := by unfold tick inR at ht; exact of_decide_eq_true ht
  obtain ⟨hu1, hu2⟩ := hu1
  obtain ⟨hb1, hb2⟩ := htb
  clear hu ht
  have b2 := Bx.mk w 96 #[.int .i64 b, .int .i64 u]
  have N2 := (New.refl w).alloc (.cells #[.int .i64 b, .int .i64 u] 96)
  have l2 := b2.lt
  go_enter Try.func64, Try.ntmps64
  go_wp2_with (refine wpList_mk _ rfl _ _ 30 rfl (w.heap.size + 1) 3 i0 _ Try.underlying30 hi hz0 hz1 rfl encI (fun _ => rfl) 0 rfl n rfl rfl (by rw [hz2]; omega) (by unfold maxLen; omega) (by simp) ?_; intro w3 hown n3 hlt3)
  have N3 := N2.trans n3
  have b3 := b2.keep n3
  obtain ⟨g, hg⟩ : ∃ g, (w.alloc (.cells #[.int .i64 b, .int .i64 u] 96)).heap.size = g := ⟨_, rfl⟩
  have hg' : w.heap.size + 1 = g := by rw [← hg]; simp
  rw [hg] at l2
  simp only [World.size_alloc] at hown hlt3
  rw [hg'] at hown hlt3
  try rw [hg']
  clear hg b2 N2 n3
  refine (refOrderOwn_any q A n cap _ (by omega) (HR.out.keep N3)).mono ?_
  rintro e w5 ⟨A5, c5, rfl, o5, n5⟩
  have N5 := N3.trans n5
  have b5 := b3.keep n5
  have ow5 := hown.keep n5
  have hB5 : g < w3.heap.size := by omega
  obtain ⟨B5, hB⟩ : ∃ B5, w3.heap.size = B5 := ⟨_, rfl⟩
  rw [hB] at o5 hB5
  clear hB hown b3 N3 n5 hlt3
  obtain ⟨O, hO⟩ : ∃ O, sortQ q n = O := ⟨_, rfl⟩
  have hOl : O.length = n := by rw [← hO]; exact sortQ_len q n
  have HOm := Lib.hid (show ∀ y ∈ O, y < n by rw [← hO]; exact fun y hy => (sortQ_mem q n y).1 hy)
  rw [hO] at o5
  have HO := Lib.hid hO
  have HOL := Lib.hid hOl
  clear hO hOl
  go_wp2
  go_loopw [7, 8] (fun sv i wr => ∃ k : Nat, k ≤ n ∧ i = .int .i64 (k : Int) ∧ sv = .int .i64 (sumTo q O k) ∧ Sky.Own wr g 3 1 encI (some ⟨g, 0, none⟩) n n (sentTo q O b u n k) ∧ Sky.Own wr B5 3 1 encN A5 n c5 O ∧ Bx wr w.heap.size 96 #[.int .i64 b, .int .i64 u] ∧ New w wr) (fun _ i _ => n - (intOf i).toNat)
  case atStart => exact ⟨0, by omega, rfl, rfl, ow5, o5, b5, N5⟩
  case round =>
    clear ow5 o5 b5 N5
    obtain ⟨k, hk, rfl, rfl, ow, oo, bb, hN⟩ := hrel
    by_cases hlt : k < n
    · have hkO : k < O.length := by rw [HOL.out]; exact hlt
      obtain ⟨bO, oO, y, rfl, hbO, hy, hcO⟩ := oo.rd.at_ hlt
      have go0 := hcO 0 _ rfl
      simp only [Nat.add_zero, Nat.mul_one] at go0
      have hyn := HOm.out y (List.mem_of_getElem? hy)
      have HGD := Lib.hid (show O.getD k 0 = y by rw [List.getD_eq_getElem?_getD, hy]; rfl)
      obtain ⟨bq, oq, x, rfl, hbq, hx, hcq⟩ := (HR.out.keep hN).at_ hyn
      have gq := hcq 2 _ rfl
      have HZA := Lib.hid (zAt_of hx)
      have hsum := sumTo_in HQ0.out O k
      have hsum2 := sumTo_in HQ0.out O (k + 1)
      have HSE := Lib.hid (show sumTo q O (k + 1) = sumTo q O k + x.z by rw [sumTo, HGD.out, HZA.out])
      have HTE := Lib.hid (show sentTo q O b u n (k + 1) = (sentTo q O b u n k).set y (b + upS (sumTo q O (k + 1)) u) by rw [sentTo, HGD.out])
      rw [HSE.out] at hsum2 HTE
      obtain ⟨S, hS⟩ : ∃ S, sumTo q O k = S := ⟨_, rfl⟩
      rw [hS] at HSE HTE hsum hsum2 ⊢
      clear hS
      obtain ⟨s0, s1⟩ := hsum
      obtain ⟨s2, s3⟩ := hsum2
      have hup := up_in (s := S + x.z) (u := u) s2 hu1
      obtain ⟨p0, p1⟩ := hup
      have c0 : wr.cell? ⟨w.heap.size, 0, none⟩ = some (.int .i64 b) := bb.cell 0
      have c1 : wr.cell? ⟨w.heap.size, 1, none⟩ = some (.int .i64 u) := bb.cell 1
      have lb := bb.lt
      have i0' : (0 : Int) ≤ (y : Int) := by omega
      have i1' : (y : Int) < (n : Int) := by omega
      clear hy hcO hx hcq hkO
      go_wp2
      (refine wp_region_tail 13 (by kernel_rfl) (by kernel_rfl) ?_; simp only [List.take_succ_cons, List.take_zero, List.drop_succ_cons, List.drop_zero]; (repeat (go_big_quiet_step (((go_at_call 26; exact quiet_same (Ceil_up _ _ _ (by omega) (by omega) (by omega) (by omega))))))); refine wpQuiet_nil ?_)
      intro w2 n2
      have ow2 := ow.keep n2
      obtain ⟨x0, hx0⟩ : ∃ x0, (sentTo q O b u n k)[y]? = some x0 := ⟨_, List.getElem?_eq_getElem (by rw [sent_len]; exact hyn)⟩
      have cr := ow2.cell1 y x0 _ hx0 rfl
      have fr := ow2.free y
      have HO2 := Lib.hid (ow2.set1 y (b + upS (S + x.z) u) (.int .i64 (b + upS (S + x.z) u)) hyn rfl)
      have HO3 := Lib.hid ((oo.keep n2).setBelow (p := ⟨g, y, none⟩) hB5 (.int .i64 (b + upS (S + x.z) u)))
      have HB3 := Lib.hid ((bb.keep n2).far (p := ⟨g, y, none⟩) (show w.heap.size ≠ g by omega) (.int .i64 (b + upS (S + x.z) u)))
      have HN3 := Lib.hid ((hN.trans n2).setCell (p := ⟨g, y, none⟩) (show w.heap.size ≤ g by omega) (.int .i64 (b + upS (S + x.z) u)))
      clear ow2 ow oo bb hN hx0 c0 c1 n2 go0 gq
      go_wp2
      go_roundw
      case rel => exact ⟨k + 1, by omega, by go_num, by rw [HSE.out], by rw [HTE.out]; exact HO2.out, HO3.out, HB3.out, HN3.out⟩
      case measure => simp [intOf]; omega
    · obtain rfl : k = n := by omega
      go_wp2
      go_ret
      exact ⟨hN, _, _, rfl, by rw [HO.out]; exact ow.rd⟩
end Go.Proofs.Ytjpkcmlepjbamaa
