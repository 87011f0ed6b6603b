/- Contracts: the orders, owned; SentBy. -/
import Derived.Test.YtjpkcmlepjbamaaW53
import Derived.Test.YtjpkcmlepjbamaaSpecP
namespace Go.Proofs.Ytjpkcmlepjbamaa
open Go.RowKit Go.Sky

set_option maxRecDepth 100000 in
set_option maxHeartbeats 4000000 in
theorem orderOwn_any (q : List Sky.Item) (A : Option Addr) (n cap : Nat) (w : World) (hn : n ≤ 20) (hr : Rd w 4 encM A n q) :
    Calls Try.prog 115 #[.slice A n cap] w fun e w' => ∃ A' c', e = .returned (.slice A' n c') ∧ Sky.Own w' (w.heap.size + 1) 3 1 encN A' n c' (sortQ q n) ∧ New w w' := by
  obtain ⟨i0, hi, hz0, hz1, hz2⟩ := info_parts infoInt
  have HR := Lib.hid hr; clear hr
  have HG := Lib.hid (enters_go (f := 145) Try.func145 (by kernel_rfl) rfl)
  have b0 := Bx.mk w 88 #[.slice A n cap]
  have hN0 := (New.refl w).alloc (.cells #[.slice A n cap] 88)
  have c0 : World.cell? _ ⟨w.heap.size, 0, none⟩ = some (.slice A n cap) := b0.cell 0
  have l0 := b0.lt
  go_enter Try.func115, Try.ntmps115
  go_wp2
  go_loopw [3, 4, 7] (fun v _ i wr => ∃ (k : Nat) (A' : Option Addr) (c' : Nat), k ≤ n ∧ i = .int .i64 (k : Int) ∧ v = .slice A' k c' ∧ Sky.Own wr (w.heap.size + 1) 3 1 encN A' k c' (List.range k) ∧ New w wr ∧ Bx wr w.heap.size 88 #[.slice A n cap]) (fun _ _ i _ => n - (intOf i).toNat)
  case atStart => exact ⟨0, none, 0, by omega, rfl, rfl, Own.nil _ _ _ _ encN_len, hN0, b0⟩
  case round =>
    clear b0 hN0 c0 l0
    obtain ⟨k, A', c', hk, rfl, rfl, hown, hN, b1⟩ := hrel
    by_cases hlt : k < n
    · have hks := b1.lt
      go_wp2_with (at_builtin; refine wpList_push _ rfl _ _ 30 rfl 3 i0 _ 1 8 Try.underlying30 hi hz0 hz1 hz2 rfl (by omega) (w.heap.size + 1) encN A' k c' _ rfl (by exact hown.alloc _) _ 1 1 [k] rfl rfl (by omega) (by exact cells_new _ _ _ _ (by simp) _ rfl) encN_one (by unfold maxLen; omega) (by omega) (by simp; omega) ?_; intro g cap2 w4 hown4 hg4 hat4 hb4 hlt4 hN4)
      have b4 := (b1.alloc (.cells #[.int .i64 (k : Int)] 3)).grown hg4 (fun e => by
        rcases hown.form with ⟨h0, _⟩ | ⟨g', h0, hge, _⟩
        · rw [h0] at e; cases e
        · rw [h0] at e
          simp at e
          omega)
      go_roundw
      case rel => exact ⟨k + 1, _, cap2, by omega, by go_num, rfl, by rw [List.range_succ]; exact hown4, (hN.alloc _).grownOwn (hown.alloc _) (by omega) hg4, b4⟩
      case measure => simp [intOf]; omega
    · obtain rfl : k = n := by omega
      have hsz := b1.lt
      have hNs := hN.size
      go_wp2_with fail
      refine (sortStable 145 _ q A' k c' (w.heap.size + 1) _ hn HG.out (fun i y hi hy W hW => ordClos q A k cap i y w.heap.size W hi hy (by omega) ((b1.below hW (by omega)).cell 0) (HR.out.keep (hN.trans' hW))) (by omega) hown).mono ?_
      rintro e w2 ⟨rfl, o2, hB⟩
      go_wp2
      go_ret
      exact ⟨A', c', rfl, o2, hN.trans' hB⟩

set_option maxRecDepth 100000 in
set_option maxHeartbeats 4000000 in
theorem refOrderOwn_any (q : List Sky.Item) (A : Option Addr) (n cap : Nat) (w : World) (hn : n ≤ 1000) (hr : Rd w 4 encM A n q) :
    Calls Try.prog 60 #[.slice A n cap] w fun e w' => ∃ A' c', e = .returned (.slice A' n c') ∧ Sky.Own w' w.heap.size 3 1 encN A' n c' (sortQ q n) ∧ New w w' := by
  obtain ⟨i0, hi, hz0, hz1, hz2⟩ := info_parts infoInt
  have HR := Lib.hid hr; clear hr
  go_enter Try.func60, Try.ntmps60
  go_wp2_with (refine wpList_mk _ rfl _ _ 30 rfl w.heap.size 3 i0 _ Try.underlying30 hi hz0 hz1 rfl encN (fun _ => rfl) 0 rfl n rfl rfl (by rw [hz2]; omega) (by unfold maxLen; omega) (Nat.le_refl _) ?_; intro w2 hown n2 hlt2)
  have hgb : w.heap.size ≤ w.heap.size := Nat.le_refl _
  obtain ⟨g, hg⟩ : ∃ g, w.heap.size = g := ⟨_, rfl⟩
  rw [hg] at hown hlt2 hgb ⊢
  have HGE := Lib.hid (show w.heap.size = g from hg)
  clear hg hgb
  go_loopw [4] (fun i wr => ∃ (k : Nat) (xs : List Nat), k ≤ n ∧ i = .int .i64 (k : Int) ∧ Sky.Own wr g 3 1 encN (some ⟨g, 0, none⟩) n n xs ∧ Hid (Placed q n k xs) ∧ New w wr) (fun i _ => n - (intOf i).toNat)
  case atStart => exact ⟨0, _, by omega, rfl, hown, Lib.hid ⟨by simp, fun i hi => absurd hi (by omega)⟩, n2⟩
  case round =>
    clear hown hlt2 n2
    obtain ⟨k, xs, hk, rfl, hown, HP, hN⟩ := hrel
    by_cases hlt : k < n
    · go_wp2
      go_loopw [5, 6] (fun c i wx => ∃ (m : Nat), m ≤ n ∧ i = .int .i64 (m : Int) ∧ c = .int .i64 ((rankTo q k m : Nat) : Int) ∧ Sky.Own wx g 3 1 encN (some ⟨g, 0, none⟩) n n xs ∧ New w wx) (fun _ i _ => n - (intOf i).toNat)
      case atStart => exact ⟨0, by omega, rfl, rfl, hown, hN⟩
      case round =>
        clear hown hN
        obtain ⟨m, hm, rfl, rfl, hown, hN⟩ := hrel
        by_cases hmn : m < n
        · have HST := Lib.hid (rank_step q k m)
          have hle := rank_le q k m
          obtain ⟨r, hr⟩ : ∃ r, rankTo q k m = r := ⟨_, rfl⟩
          rw [hr] at HST hle ⊢
          clear hr
          obtain ⟨bq, hbq⟩ : ∃ c, befQ q m k = c := ⟨_, rfl⟩
          have HB := Lib.hid hbq
          clear hbq
          go_wp2_with fail
          refine (before_item q A n cap m k _ hmn hlt (by omega) (HR.out.keep hN)).mono ?_
          rw [HB.out]
          rintro e w3 ⟨rfl, n3⟩
          cases bq
          · have HV := Lib.hid (show rankTo q k (m + 1) = r by rw [HST.out, HB.out]; rfl)
            go_wp2
            go_roundw
            case rel => exact ⟨m + 1, by omega, by go_num, by rw [HV.out], hown.keep n3, hN.trans n3⟩
            case measure => simp [intOf]; omega
          · have HV := Lib.hid (show rankTo q k (m + 1) = r + 1 by rw [HST.out, HB.out]; rfl)
            go_wp2
            go_roundw
            case rel => exact ⟨m + 1, by omega, by go_num, by rw [HV.out]; go_num, hown.keep n3, hN.trans n3⟩
            case measure => simp [intOf]; omega
        · obtain rfl : m = n := by omega
          have HSTP := Lib.hid (placed_step HP.out hlt)
          have hrk := (sort_rank q m k hlt).1
          obtain ⟨r, hr⟩ : ∃ r, rankTo q k m = r := ⟨_, rfl⟩
          rw [hr] at HSTP hrk ⊢
          clear hr
          have hxl := HP.out.1
          obtain ⟨x0, hx0⟩ : ∃ x0, xs[r]? = some x0 := ⟨_, List.getElem?_eq_getElem (by omega)⟩
          have cr := hown.cell1 r x0 _ hx0 rfl
          have fr := hown.free r
          have HO2 := Lib.hid (hown.set1 r k (.int .i64 (k : Int)) hrk rfl)
          have HN2 := Lib.hid (hN.setCell (p := ⟨g, r, none⟩) (by rw [HGE.out]; exact Nat.le_refl _) (.int .i64 (k : Int)))
          clear hxl hown hN hx0
          go_wp2
          go_roundw
          case rel => exact ⟨k + 1, _, by omega, by go_num, HO2.out, HSTP, HN2.out⟩
          case measure => simp [intOf]; omega
    · obtain rfl : k = n := by omega
      have HV := Lib.hid (placed_end HP.out)
      go_wp2
      go_ret
      exact ⟨_, _, rfl, by rw [← HV.out, HGE.out]; exact hown, hN⟩

theorem queueErr_is (E : Int) (A : Option Addr) (n cap : Nat) (q : List Sky.Item) (w : World) (hn : n ≤ 1000000) (hcap : n ≤ cap) (hx : ∀ x ∈ q, x.n.size ≤ 1000) (hr : Rd w 4 encM A n q) (h : (queueS q).2 = E) :
    Calls Try.prog 114 #[.slice A n cap] w fun e w' => e = .returned (.int .i64 E) ∧ New w w' := h ▸ queueErr_any A n cap q w hn hcap hx hr

set_option maxRecDepth 100000 in
set_option maxHeartbeats 4000000 in
theorem sentBy_any (b u : Int) (q : List Sky.Item) (A : Option Addr) (n cap : Nat) (w : World) (hn : n ≤ 1000) (hcap : n ≤ cap) (hx : ∀ x ∈ q, x.n.size ≤ 1000) (hr : Rd w 4 encM A n q) :
    Calls Try.prog 61 #[.slice A n cap, .agg #[.int .i64 b, .int .i64 u]] w fun e w' => New w w' ∧
      ((sentE q b u ≠ 0 ∧ e = .returned (.tuple #[.slice none 0 0, .int .i64 (sentE q b u)])) ∨
       (sentE q b u = 0 ∧ ∃ A' c', e = .returned (.tuple #[.slice A' n c', .int .i64 0]) ∧ Rd w' 1 encI A' n (sentTo q (sortQ q n) b u n n))) := by
  obtain ⟨i0, hi, hz0, hz1, hz2⟩ := info_parts infoInt
  have HL := Lib.hid hr.len
  have HR := Lib.hid hr; clear hr
  have HX := Lib.hid hx; clear hx
  obtain ⟨E, hE⟩ : ∃ E, (queueS q).2 = E := ⟨_, rfl⟩
  have HE := Lib.hid hE
  clear hE
  obtain ⟨F, hF⟩ : ∃ F, sentE q b u = F := ⟨_, rfl⟩
  rw [hF]
  obtain ⟨X, HX2, hc2⟩ : ∃ X, Hid (F = firstE [E, errU X 2]) ∧ ((tick b = false ∧ X = false) ∨ (tick b = true ∧ X = inR u 1 10000)) := by
    rw [← HE.out, ← hF]
    unfold sentE linkB
    cases tick b
    · exact ⟨false, rfl, .inl ⟨rfl, rfl⟩⟩
    · exact ⟨_, rfl, .inr ⟨rfl, rfl⟩⟩
  have hz : (F = 0 ∧ (F != 0) = false) ∨ (F ≠ 0 ∧ (F != 0) = true) := by
    by_cases h : F = 0
    · exact .inl ⟨h, by simpa using h⟩
    · exact .inr ⟨h, by simpa using h⟩
  have HF := Lib.hid hF
  clear hF
  have b0 := Bx.mk w 96 #[.int .i64 b, .int .i64 u]
  have hN0 := (New.refl w).alloc (.cells #[.int .i64 b, .int .i64 u] 96)
  have c0 : World.cell? _ ⟨w.heap.size, 0, none⟩ = some (.int .i64 b) := b0.cell 0
  have c1 : World.cell? _ ⟨w.heap.size, 1, none⟩ = some (.int .i64 u) := b0.cell 1
  have l0 := b0.lt
  go_enter Try.func61, Try.ntmps61
  rcases hc2 with ⟨ht, rfl⟩ | ⟨ht, rfl⟩ <;> rcases hz with ⟨hz0, d2⟩ | ⟨hz0, d2⟩
  all_goals
    have HZ := Lib.hid hz0
    clear hz0
    go_wp2
    (refine wp_region_tail 11 (by kernel_rfl) (by kernel_rfl) ?_; simp only [List.take_succ_cons, List.take_zero, List.drop_succ_cons, List.drop_zero]; (repeat (go_big_quiet_step ((first | (go_at_call 114; exact quiet_new (queueErr_is E A n cap q _ (by omega) hcap HX.out (by exact HR.out.keep (((New.refl _).alloc _).trans (plus_new _ _))) HE.out)) | (go_at_call 87; exact quiet_same (isTick_is _ true _ (by assumption))) | (go_at_call 87; exact quiet_same (isTick_is _ false _ (by assumption))) | (go_at_call 96; exact quiet_same (within_any _ _ _ _)) | (go_at_call 86; exact quiet_same (unless_any _ _ _)))))); refine wpQuiet_nil ?_)
    intro w1 n1
    go_wp2_with fail
    refine (first_any _ 2 2 [_, _] _ (by omega) rfl (cells_new _ _ _ _ (by simp) _ rfl)).mono ?_
    rintro e W2 ⟨rfl, hW2⟩
    rw [← HX2.out]
    have b2' := (b0.keep n1).keep (show New w1 W2 by rw [← hW2]; exact (New.refl _).alloc _)
    have N2' := hn2of (n1.trans (show New w1 W2 by rw [← hW2]; exact (New.refl _).alloc _))
    clear hW2
  · exact absurd HZ.out (by rw [HX2.out, firstE_two]; by_cases h : E = 0 <;> simp [h, errU])
  · go_wp2
    go_ret2
    exact ⟨N2', .inl ⟨HZ.out, rfl⟩⟩
  · obtain ⟨hE0, hu⟩ : E = 0 ∧ inR u 1 10000 = true := by
      have h := HX2.out
      rw [HZ.out, firstE_two] at h
      by_cases h1 : E = 0
      · refine ⟨h1, ?_⟩
        rw [if_pos h1] at h
        cases hh : inR u 1 10000
        · rw [hh] at h; simp [errU] at h
        · rfl
      · rw [if_neg h1] at h; exact absurd h.symm h1
    have hq0 : (queueS q).2 = 0 := HE.out.trans hE0
    have h20 : n ≤ 20 := by rw [← HL.out]; exact queueS_small hq0
    have HQ0 := Lib.hid hq0
    clear hq0 hE0
    have hu1 : 1 ≤ u ∧ u ≤ 10000 := by unfold inR at hu; exact of_decide_eq_true hu
    have htb : 0 ≤ b ∧ b ≤ 1000000000000 := by unfold tick inR at ht; exact of_decide_eq_true ht
    obtain ⟨hu1, hu2⟩ := hu1
    obtain ⟨hb1, hb2⟩ := htb
    have b2 := b2'
    have N2 := N2'
    clear b0 hN0 c0 c1 l0 n1 b2' N2'
    have l2 := b2.lt
    go_wp2_with (refine wpList_mk _ rfl _ _ 30 rfl (w.heap.size + 1) 3 i0 _ Try.underlying30 hi hz0 hz1 rfl encI (fun _ => rfl) 0 rfl n rfl rfl (by rw [hz2]; omega) (by unfold maxLen; omega) (by omega) ?_; intro w3 hown n3 hlt3)
    have N3 := N2.trans n3
    have b3 := b2.keep n3
    obtain ⟨g, hg⟩ : ∃ g, W2.heap.size = g := ⟨_, rfl⟩
    rw [hg] at hown hlt3 l2 ⊢
    clear hg b2 N2 n3
    go_wp2_with fail
    refine (orderOwn_any q A n cap _ h20 (HR.out.keep N3)).mono ?_
    rintro e w5 ⟨A5, c5, rfl, o5, n5⟩
    have N5 := N3.trans n5
    have b5 := b3.keep n5
    have ow5 := hown.keep n5
    have hB5 : g < w3.heap.size + 1 := by omega
    obtain ⟨B5, hB⟩ : ∃ B5, w3.heap.size + 1 = B5 := ⟨_, rfl⟩
    rw [hB] at o5 hB5
    clear hB hown b3 N3 n5 hlt3
    obtain ⟨O, hO⟩ : ∃ O, sortQ q n = O := ⟨_, rfl⟩
    have hOl : O.length = n := by rw [← hO]; exact sortQ_len q n
    have HOm := Lib.hid (show ∀ y ∈ O, y < n by rw [← hO]; exact fun y hy => (sortQ_mem q n y).1 hy)
    rw [hO] at o5
    have HO := Lib.hid hO
    have HOL := Lib.hid hOl
    clear hO hOl
    go_wp2
    go_loopw [8, 10, 33] (fun sv _ i wr => ∃ k : Nat, k ≤ n ∧ i = .int .i64 (k : Int) ∧ sv = .int .i64 (sumTo q O k) ∧ Sky.Own wr (w.heap.size + 1) 3 1 encI (some ⟨g, 0, none⟩) n n (sentTo q O b u n k) ∧ Sky.Own wr B5 3 1 encN A5 n c5 O ∧ Bx wr w.heap.size 96 #[.int .i64 b, .int .i64 u] ∧ New w wr) (fun _ _ i _ => n - (intOf i).toNat)
    case atStart => exact ⟨0, by omega, rfl, rfl, ow5, o5, b5, N5⟩
    case round =>
      clear ow5 o5 b5 N5
      obtain ⟨k, hk, rfl, rfl, ow, oo, bb, hN⟩ := hrel
      by_cases hlt : k < n
      · have hkO : k < O.length := by rw [HOL.out]; exact hlt
        obtain ⟨bO, oO, y, rfl, hbO, hy, hcO⟩ := oo.rd.at_ hlt
        have go0 := hcO 0 _ rfl
        simp only [Nat.add_zero, Nat.mul_one] at go0
        have hyn := HOm.out y (List.mem_of_getElem? hy)
        have HGD := Lib.hid (show O.getD k 0 = y by rw [List.getD_eq_getElem?_getD, hy]; rfl)
        obtain ⟨bq, oq, x, rfl, hbq, hx, hcq⟩ := (HR.out.keep hN).at_ hyn
        have gq := hcq 2 _ rfl
        have HZA := Lib.hid (zAt_of hx)
        have hsum := sumTo_in HQ0.out O k
        have hsum2 := sumTo_in HQ0.out O (k + 1)
        have HSE := Lib.hid (show sumTo q O (k + 1) = sumTo q O k + x.z by rw [sumTo, HGD.out, HZA.out])
        have HTE := Lib.hid (show sentTo q O b u n (k + 1) = (sentTo q O b u n k).set y (b + upS (sumTo q O (k + 1)) u) by rw [sentTo, HGD.out])
        rw [HSE.out] at hsum2 HTE
        obtain ⟨S, hS⟩ : ∃ S, sumTo q O k = S := ⟨_, rfl⟩
        rw [hS] at HSE HTE hsum hsum2 ⊢
        clear hS
        obtain ⟨s0, s1⟩ := hsum
        obtain ⟨s2, s3⟩ := hsum2
        have hup := up_in (s := S + x.z) (u := u) s2 hu1
        obtain ⟨p0, p1⟩ := hup
        have c0 : wr.cell? ⟨w.heap.size, 0, none⟩ = some (.int .i64 b) := bb.cell 0
        have c1 : wr.cell? ⟨w.heap.size, 1, none⟩ = some (.int .i64 u) := bb.cell 1
        have lb := bb.lt
        have i0' : (0 : Int) ≤ (y : Int) := by omega
        have i1' : (y : Int) < (n : Int) := by omega
        clear hy hcO hx hcq hkO
        go_wp2
        (refine wp_region_tail 10 (by kernel_rfl) (by kernel_rfl) ?_; simp only [List.take_succ_cons, List.take_zero, List.drop_succ_cons, List.drop_zero]; (repeat (go_big_quiet_step (((go_at_call 118; exact quiet_same (up_any _ _ _ (by omega) (by omega) (by omega) (by omega))))))); refine wpQuiet_nil ?_)
        intro w2 n2
        have ow2 := ow.keep n2
        obtain ⟨x0, hx0⟩ : ∃ x0, (sentTo q O b u n k)[y]? = some x0 := ⟨_, List.getElem?_eq_getElem (by rw [sent_len]; exact hyn)⟩
        have cr := ow2.cell1 y x0 _ hx0 rfl
        have fr := ow2.free y
        have HO2 := Lib.hid (ow2.set1 y (b + upS (S + x.z) u) (.int .i64 (b + upS (S + x.z) u)) hyn rfl)
        have HO3 := Lib.hid ((oo.keep n2).setBelow (p := ⟨g, y, none⟩) hB5 (.int .i64 (b + upS (S + x.z) u)))
        have HB3 := Lib.hid ((bb.keep n2).far (p := ⟨g, y, none⟩) (show w.heap.size ≠ g by omega) (.int .i64 (b + upS (S + x.z) u)))
        have HN3 := Lib.hid ((hN.trans n2).setCell (p := ⟨g, y, none⟩) (show w.heap.size ≤ g by omega) (.int .i64 (b + upS (S + x.z) u)))
        clear ow2 ow oo bb hN hx0 c0 c1 n2 go0 gq
        go_wp2
        go_roundw
        case rel => exact ⟨k + 1, by omega, by go_num, by rw [HSE.out], by rw [HTE.out]; exact HO2.out, HO3.out, HB3.out, HN3.out⟩
        case measure => simp [intOf]; omega
      · obtain rfl : k = n := by omega
        go_wp2
        go_ret2
        exact ⟨hN, .inr ⟨HZ.out, _, _, rfl, by rw [HO.out]; exact ow.rd⟩⟩
  · go_wp2
    go_ret2
    exact ⟨N2', .inl ⟨HZ.out, rfl⟩⟩
end Go.Proofs.Ytjpkcmlepjbamaa
