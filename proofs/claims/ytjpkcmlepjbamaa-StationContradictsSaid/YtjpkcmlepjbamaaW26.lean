/- Contract: the reference's pair of exchanges that contradict each other. -/
import Derived.Test.YtjpkcmlepjbamaaW25
import Derived.Test.YtjpkcmlepjbamaaSpecI
namespace Go.Proofs.Ytjpkcmlepjbamaa
open Go.RowKit Go.Sky

set_option maxRecDepth 100000 in
set_option maxHeartbeats 4000000 in
theorem refPair_any (A : Option Addr) (n cap : Nat) (xs : List Exch) (d t : Int) (w : World) (hn : n ≤ 1000) (hr : Rd w 3 encX A n xs) (h0 : offsErr xs d t = 0) :
    Calls Try.prog 36 #[.slice A n cap, .int .i64 d, .int .i64 t] w fun e w' =>
      e = .returned (.tuple #[.agg #[.int .i64 (pairS (xs.map (offBy · d t))).1.1, .int .i64 (pairS (xs.map (offBy · d t))).1.2], .bool (pairS (xs.map (offBy · d t))).2]) ∧ New w w' := by
  have HL := Lib.hid hr.len
  obtain ⟨p1, p2, p3⟩ := offs_parts h0
  have HP := Lib.hid p1
  obtain ⟨t1, t2, t3, t4⟩ := timeE_zero p2
  have HT := Lib.hid p2
  have HR := Lib.hid hr
  clear h0 p1 p2 p3 hr
  have HLM := Lib.hid (show (xs.map (offBy · d t)).length = n by rw [List.length_map]; exact HL.out)
  go_enter Try.func36, Try.ntmps36
  go_wp2_with fail
  go_loopw [8] (fun i wr => ∃ k : Nat, k ≤ n ∧ i = .int .i64 k ∧ Hid (∀ p ∈ upToP n k (k + 1), clashAt (xs.map (offBy · d t)) p = false) ∧ Bx wr w.heap.size 52 #[.int .i64 0, .int .i64 0] ∧ New w wr) (fun i _ => n - (intOf i).toNat)
  case atStart => exact ⟨0, by omega, rfl, (by rw [upToP_start]; exact fun p hp => absurd hp List.not_mem_nil), Bx.mk _ _ _, (New.refl _).alloc _⟩
  case round =>
    obtain ⟨k, hk, rfl, HI, hb, hN⟩ := hrel
    by_cases hlt : k < n
    · go_wp2_with fail
      go_loopw [9] (fun i wr => ∃ j : Nat, k < j ∧ j ≤ n ∧ i = .int .i64 j ∧ Hid (∀ p ∈ upToP n k j, clashAt (xs.map (offBy · d t)) p = false) ∧ Bx wr w.heap.size 52 #[.int .i64 0, .int .i64 0] ∧ New w wr) (fun i _ => n - (intOf i).toNat)
      case atStart => exact ⟨k + 1, by omega, by omega, by go_num, HI, hb, hN⟩
      case round =>
        clear HI hb hN
        obtain ⟨j, hkj, hj, rfl, HI, hb, hN⟩ := hrel
        by_cases hjn : j < n
        · obtain ⟨ba, oa, x, hA1, hba, hx, hcx⟩ := (HR.out.keep hN).at_ hlt
          obtain ⟨bb, ob, z, hA2, hbb, hz, hcz⟩ := (HR.out.keep hN).at_ hjn
          rw [hA1] at hA2
          injection hA2 with hA2
          injection hA2 with hA3 hA4
          subst hA3 hA4 hA1
          have p0 := hcx 0 _ rfl
          have p1 := hcx 1 _ rfl
          have p2 := hcx 2 _ rfl
          have q0 := hcz 0 _ rfl
          have q1 := hcz 1 _ rfl
          have q2 := hcz 2 _ rfl
          simp only [Nat.add_zero] at p0 q0
          have l1 : (0 : Int) ≤ (k : Int) := by omega
          have l2 : (k : Int) < (n : Int) := by omega
          have l3 : (0 : Int) ≤ (j : Int) := by omega
          have l4 : (j : Int) < (n : Int) := by omega
          obtain ⟨m1, m2, m3, m4, m5⟩ := exErr_zero (HP.out x (List.mem_of_getElem? hx))
          obtain ⟨r1, r2, r3, r4, r5⟩ := exErr_zero (HP.out z (List.mem_of_getElem? hz))
          clear hcx hcz
          go_wp2_with fail
          refine (wpIn_wide (n := 6)).1 ?_
          obtain ⟨R, hR⟩ : ∃ R : Act → World → Prop, Hid (∀ a' w', R a' w' ↔ (New wr w' ∧ ∃ p q : Nat, wr.heap.size ≤ p ∧ wr.heap.size ≤ q ∧ Bx w' p 38 #[.int .i64 (offBy x d t).1, .int .i64 (offBy x d t).2] ∧ Bx w' q 38 #[.int .i64 (offBy z d t).1, .int .i64 (offBy z d t).2] ∧ a' = { tmps := #[.slice (some ⟨ba, oa, none⟩) n cap, .int .i64 d, .int .i64 t, undef, undef, undef, .pointer (some ⟨w.heap.size, 0, none⟩), u7, .int .i64 (k : Int), .int .i64 (j : Int), .pointer (some ⟨p, 0, none⟩), .pointer (some ⟨q, 0, none⟩), .int .i64 (k : Int), .slice (some ⟨ba, oa, none⟩) n cap, .int .i64 (n : Int), .bool true, u16, u17, .int .i64 (k : Int), .int .i64 ((k : Int) + 1), .int .i64 (j : Int), .slice (some ⟨ba, oa, none⟩) n cap, .int .i64 (n : Int), .bool true, u24, u25, .slice (some ⟨ba, oa, none⟩) n cap, .int .i64 (k : Int), .pointer (some ⟨ba, oa + k * 3, none⟩), .agg #[.int .i64 x.s, .int .i64 x.t, .int .i64 x.r], .int .i64 d, .int .i64 t, .agg #[.int .i64 (offBy x d t).1, .int .i64 (offBy x d t).2], .slice (some ⟨ba, oa, none⟩) n cap, .int .i64 (j : Int), .pointer (some ⟨ba, oa + j * 3, none⟩), .agg #[.int .i64 z.s, .int .i64 z.t, .int .i64 z.r], .int .i64 d, .int .i64 t, .agg #[.int .i64 (offBy z d t).1, .int .i64 (offBy z d t).2], u40, u41, u42, u43, u44, u45, u46, u47, u48, u49, u50, u51, u52, u53, u54, undef], defers := [] })) := ⟨_, Lib.hid (fun _ _ => Iff.rfl)⟩
          refine wpIn_region_takes 6 12 #[true, true, true, true, true, true, false, false, false, false, false, false, false, false, false, false, false, false] R (by kernel_rfl) (by kernel_rfl) (by kernel_rfl) (by kernel_rfl) (by kernel_rfl) (by kernel_rfl) ?after ?walk
          case walk =>
            simp only [List.take_succ_cons, List.take_zero]
            (repeat (go_big_quiet_step ((fail))))
            refine wpQuiet_nil ?_
            intro W1 n1
            refine take_next (f := 6) 7 6 #[true, true, true, true, true, true, false, true, true, true, true, true, true, false, false, false, false, false] rfl (by kernel_rfl) (by kernel_rfl) (by kernel_rfl) (by kernel_rfl) (by decide) ?_
            simp only [List.take_succ_cons, List.take_zero, List.drop_succ_cons, List.drop_zero]
            (repeat (go_big_quiet_step ((fail))))
            refine wpQuiet_nil ?_
            obtain ⟨I, hI⟩ : ∃ I : List Nat → Act → World → Prop, Hid (∀ rem a' w', I rem a' w' ↔ (New wr w' ∧ ∃ x10 x11 x32 x39 : Value, a' = { tmps := #[.slice (some ⟨ba, oa, none⟩) n cap, .int .i64 d, .int .i64 t, undef, undef, undef, .pointer (some ⟨w.heap.size, 0, none⟩), u7, .int .i64 (k : Int), .int .i64 (j : Int), x10, x11, .int .i64 (k : Int), .slice (some ⟨ba, oa, none⟩) n cap, .int .i64 (n : Int), .bool true, u16, u17, .int .i64 (k : Int), .int .i64 ((k : Int) + 1), .int .i64 (j : Int), .slice (some ⟨ba, oa, none⟩) n cap, .int .i64 (n : Int), .bool true, u24, u25, .slice (some ⟨ba, oa, none⟩) n cap, .int .i64 (k : Int), .pointer (some ⟨ba, oa + k * 3, none⟩), .agg #[.int .i64 x.s, .int .i64 x.t, .int .i64 x.r], .int .i64 d, .int .i64 t, x32, .slice (some ⟨ba, oa, none⟩) n cap, .int .i64 (j : Int), .pointer (some ⟨ba, oa + j * 3, none⟩), .agg #[.int .i64 z.s, .int .i64 z.t, .int .i64 z.r], .int .i64 d, .int .i64 t, x39, u40, u41, u42, u43, u44, u45, u46, u47, u48, u49, u50, u51, u52, u53, u54, undef], defers := [] } ∧ (6 ∉ rem → x32 = .agg #[.int .i64 (offBy x d t).1, .int .i64 (offBy x d t).2]) ∧ (13 ∉ rem → x39 = .agg #[.int .i64 (offBy z d t).1, .int .i64 (offBy z d t).2]) ∧ (14 ∉ rem → ∃ p : Nat, x10 = .pointer (some ⟨p, 0, none⟩) ∧ wr.heap.size ≤ p ∧ Bx w' p 38 #[.int .i64 0, .int .i64 0]) ∧ (15 ∉ rem → ∃ q : Nat, x11 = .pointer (some ⟨q, 0, none⟩) ∧ wr.heap.size ≤ q ∧ Bx w' q 38 #[.int .i64 0, .int .i64 0]) ∧ (14 ∉ rem → 15 ∉ rem → x10 ≠ x11))) := ⟨_, Lib.hid (fun _ _ _ => Iff.rfl)⟩
            refine any_order (E := [6, 13, 14, 15]) (base := #[true, true, true, true, true, true, false, true, true, true, true, true, true, false, false, false, false, false]) (f := 2) I (by kernel_rfl) (fun rem a' w' h => new_plus ((hI.out _ _ _).1 h).1) ?step ?fin 4 [6, 13, 14, 15] _ _ rfl rfl ((hI.out _ _ _).2 ⟨n1, _, _, _, _, rfl, fun h => absurd (by decide) h, fun h => absurd (by decide) h, fun h => absurd (by decide) h, fun h => absurd (by decide) h, fun h => absurd (by decide) h⟩)
            case step =>
              intro i hi rem a' w' hir hIw
              obtain ⟨hn', x10, x11, x32, x39, rfl, h32, h39, h10, h11, hne⟩ := (hI.out _ _ _).1 hIw
              clear hIw
              have hst : i = 6 ∨ i = 13 ∨ i = 14 ∨ i = 15 := by simpa using hi
              clear hi
              rcases hst with rfl | rfl | rfl | rfl
              · refine wpOpIn_list rfl ?_
                gi_wp2_with fail
                refine ⟨trivial, (callsIn_wide.2 (refOff_any x.s x.t x.r d t _ (by omega) (by omega) (by omega) (by omega) (by omega) (by omega) (by omega) (by omega) (by omega))).mono ?_⟩
                rintro e w2 ⟨rfl, n2⟩
                rw [show (⟨x.s, x.t, x.r⟩ : Exch) = x from rfl]
                gi_wp2
                exact (hI.out (rem.erase 6) _ _).2 ⟨hn'.trans n2, x10, x11, _, x39, rfl, fun _ => rfl, fun h => h39 (fun hm => h ((List.mem_erase_of_ne (by decide)).2 hm)), fun h => by
                  obtain ⟨p, e, hp, hb⟩ := h10 (fun hm => h ((List.mem_erase_of_ne (by decide)).2 hm))
                  exact ⟨p, e, hp, hb.keep n2⟩, fun h => by
                  obtain ⟨p, e, hp, hb⟩ := h11 (fun hm => h ((List.mem_erase_of_ne (by decide)).2 hm))
                  exact ⟨p, e, hp, hb.keep n2⟩, fun h h' => hne (fun hm => h ((List.mem_erase_of_ne (by decide)).2 hm)) (fun hm => h' ((List.mem_erase_of_ne (by decide)).2 hm))⟩
              · refine wpOpIn_list rfl ?_
                gi_wp2_with fail
                refine ⟨trivial, (callsIn_wide.2 (refOff_any z.s z.t z.r d t _ (by omega) (by omega) (by omega) (by omega) (by omega) (by omega) (by omega) (by omega) (by omega))).mono ?_⟩
                rintro e w2 ⟨rfl, n2⟩
                rw [show (⟨z.s, z.t, z.r⟩ : Exch) = z from rfl]
                gi_wp2
                exact (hI.out (rem.erase 13) _ _).2 ⟨hn'.trans n2, x10, x11, x32, _, rfl, fun h => h32 (fun hm => h ((List.mem_erase_of_ne (by decide)).2 hm)), fun _ => rfl, fun h => by
                  obtain ⟨p, e, hp, hb⟩ := h10 (fun hm => h ((List.mem_erase_of_ne (by decide)).2 hm))
                  exact ⟨p, e, hp, hb.keep n2⟩, fun h => by
                  obtain ⟨p, e, hp, hb⟩ := h11 (fun hm => h ((List.mem_erase_of_ne (by decide)).2 hm))
                  exact ⟨p, e, hp, hb.keep n2⟩, fun h h' => hne (fun hm => h ((List.mem_erase_of_ne (by decide)).2 hm)) (fun hm => h' ((List.mem_erase_of_ne (by decide)).2 hm))⟩
              · refine wpOpIn_list rfl ?_
                gi_wp2
                exact (hI.out (rem.erase 14) _ _).2 ⟨hn'.alloc _, _, x11, x32, x39, rfl, fun h => h32 (fun hm => h ((List.mem_erase_of_ne (by decide)).2 hm)), fun h => h39 (fun hm => h ((List.mem_erase_of_ne (by decide)).2 hm)), fun _ => ⟨w'.heap.size, rfl, hn'.size, Bx.mk _ _ _⟩, fun h => by
                  obtain ⟨p, e, hp, hb⟩ := h11 (fun hm => h ((List.mem_erase_of_ne (by decide)).2 hm))
                  exact ⟨p, e, hp, hb.alloc _⟩, fun h h' => by
                  obtain ⟨p, e, hp, hb⟩ := h11 (fun hm => h' ((List.mem_erase_of_ne (by decide)).2 hm))
                  have := hb.lt
                  rw [e]
                  intro hc
                  injection hc with hc
                  injection hc with hc
                  injection hc with hc
                  omega⟩
              · refine wpOpIn_list rfl ?_
                gi_wp2
                exact (hI.out (rem.erase 15) _ _).2 ⟨hn'.alloc _, x10, _, x32, x39, rfl, fun h => h32 (fun hm => h ((List.mem_erase_of_ne (by decide)).2 hm)), fun h => h39 (fun hm => h ((List.mem_erase_of_ne (by decide)).2 hm)), fun h => by
                  obtain ⟨p, e, hp, hb⟩ := h10 (fun hm => h ((List.mem_erase_of_ne (by decide)).2 hm))
                  exact ⟨p, e, hp, hb.alloc _⟩, fun _ => ⟨w'.heap.size, rfl, hn'.size, Bx.mk _ _ _⟩, fun h h' => by
                  obtain ⟨p, e, hp, hb⟩ := h10 (fun hm => h ((List.mem_erase_of_ne (by decide)).2 hm))
                  have := hb.lt
                  rw [e]
                  intro hc
                  injection hc with hc
                  injection hc with hc
                  injection hc with hc
                  omega⟩
            case fin =>
              intro a' w' hIw
              obtain ⟨hn', x10, x11, x32, x39, rfl, h32, h39, h10, h11, hne⟩ := (hI.out _ _ _).1 hIw
              obtain rfl := h32 (by decide)
              obtain rfl := h39 (by decide)
              obtain ⟨p, rfl, hp, bp⟩ := h10 (by decide)
              obtain ⟨q, rfl, hq, bq⟩ := h11 (by decide)
              have hpq : p ≠ q := fun e => hne (by decide) (by decide) (by rw [e])
              have hqp := hpq.symm
              clear hIw h32 h39 h10 h11 hne
              have c0 : World.cell? _ _ = some _ := bp.cell 0
              have c1 : World.cell? _ _ = some _ := bp.cell 1
              have c2 : World.cell? _ _ = some _ := bq.cell 0
              have c3 : World.cell? _ _ = some _ := bq.cell 1
              have f0 := bp.free 0
              have f1 := bp.free 1
              have f2 := bq.free 0
              have f3 := bq.free 1
              have lp := bp.lt
              have lq := bq.lt
              have nA := (hn'.setCell (p := ⟨p, 0, none⟩) hp (.int .i64 (offBy x d t).1)).setCell (p := ⟨p, 1, none⟩) hp (.int .i64 (offBy x d t).2)
              have nB := (nA.setCell (p := ⟨q, 0, none⟩) hq (.int .i64 (offBy z d t).1)).setCell (p := ⟨q, 1, none⟩) hq (.int .i64 (offBy z d t).2)
              refine one_next 16 (by kernel_rfl) (new_plus hn') (wpOpIn_list rfl ?_)
              gi_wp2
              refine one_next 17 (by kernel_rfl) (new_plus nA) (wpOpIn_list rfl ?_)
              gi_wp2
              exact end_any (new_plus nB) (by kernel_rfl) ((hR.out _ _).2 ⟨nB, p, q, hp, hq, (((bp.set 0 _).set 1 _).far (p := ⟨q, 0, none⟩) hpq _).far (p := ⟨q, 1, none⟩) hpq _, (((bq.far (p := ⟨p, 0, none⟩) hqp _).far (p := ⟨p, 1, none⟩) hqp _).set 0 _).set 1 _, rfl⟩)
          case after =>
            intro a' W' hRw
            obtain ⟨nW, p, q, hp, hq, bp, bq, rfl⟩ := (hR.out _ _).1 hRw
            clear hRw hR
            have HC := Lib.hid (show clashAt (xs.map (offBy · d t)) (k, j) = (decide ((offBy x d t).2 < (offBy z d t).1) || decide ((offBy z d t).2 < (offBy x d t).1)) by
              rw [← clashR_of (off_le (HP.out x (List.mem_of_getElem? hx)) HT.out) (off_le (HP.out z (List.mem_of_getElem? hz)) HT.out)]
              unfold clashAt
              rw [List.getD_eq_getElem?_getD, List.getD_eq_getElem?_getD]
              show clashR ((xs.map (offBy · d t))[k]?.getD (0, 0)) ((xs.map (offBy · d t))[j]?.getD (0, 0)) = _
              rw [List.getElem?_map, List.getElem?_map, hx, hz]; rfl)
            clear hx hz p0 p1 p2 q0 q1 q2
            generalize offBy x d t = y1 at bp bq HC ⊢
            generalize offBy z d t = y2 at bp bq HC ⊢
            have hb2 := hb.keep nW
            have hN2 := hN.trans nW
            have c0 : World.cell? _ _ = some _ := bp.cell 0
            have c1 : World.cell? _ _ = some _ := bp.cell 1
            have c2 : World.cell? _ _ = some _ := bq.cell 0
            have c3 : World.cell? _ _ = some _ := bq.cell 1
            have c4 : World.cell? _ _ = some _ := hb2.cell 0
            have c5 : World.cell? _ _ = some _ := hb2.cell 1
            have f4 := hb2.free 0
            have f5 := hb2.free 1
            have l4' := hb2.lt
            have ncl := Lib.hid (show (decide (y1.2 < y2.1) || decide (y2.2 < y1.1)) = decide (y1.2 < y2.1 ∨ y2.2 < y1.1) by rw [Bool.decide_or])
            have nF := (hN2.setCell (p := ⟨w.heap.size, 0, none⟩) (Nat.le_refl _) (.int .i64 (k : Int))).setCell (p := ⟨w.heap.size, 1, none⟩) (Nat.le_refl _) (.int .i64 (j : Int))
            have b6 := (hb2.set 0 (.int .i64 (k : Int))).set 1 (.int .i64 (j : Int))
            have e0 : World.cell? _ _ = some _ := b6.cell 0
            have e1 : World.cell? _ _ = some _ := b6.cell 1
            by_cases h1 : y1.2 < y2.1
            · have HV := Lib.hid (pair_hit (l := xs.map (offBy · d t)) hkj (by rw [HLM.out]; exact hjn) (by rw [HLM.out]; exact HI.out) (by rw [HC.out, ncl.out]; exact decide_eq_true (.inl h1)))
              go_wp2
              exact bodyPost_ret (v := .tuple #[.agg #[.int .i64 (k : Int), .int .i64 (j : Int)], .bool true]) (by simp [results, Try.results36, go_sem, e0, e1]) rfl ⟨by rw [HV.out], nF⟩
            · by_cases h2 : y2.2 < y1.1
              · have HV := Lib.hid (pair_hit (l := xs.map (offBy · d t)) hkj (by rw [HLM.out]; exact hjn) (by rw [HLM.out]; exact HI.out) (by rw [HC.out, ncl.out]; exact decide_eq_true (.inr h2)))
                go_wp2
                exact bodyPost_ret (v := .tuple #[.agg #[.int .i64 (k : Int), .int .i64 (j : Int)], .bool true]) (by simp [results, Try.results36, go_sem, e0, e1]) rfl ⟨by rw [HV.out], nF⟩
              · have HNC := Lib.hid (show clashAt (xs.map (offBy · d t)) (k, j) = false by rw [HC.out, ncl.out]; exact decide_eq_false (by omega))
                go_wp2
                go_roundw
                case rel => exact ⟨j + 1, by omega, by omega, by go_num, (by
                  rw [upToP_step n hkj]
                  intro p hp
                  rcases List.mem_append.1 hp with hp | hp
                  · exact HI.out p hp
                  · rw [List.mem_singleton.1 hp]; exact HNC.out), hb2, hN2⟩
                case measure => simp [intOf]; omega
        · have hjn' : j = n := by omega
          have HIx := Lib.hid (show ∀ p ∈ upToP n (k + 1) (k + 1 + 1), clashAt (xs.map (offBy · d t)) p = false by
            rw [← upToP_row]; rw [hjn'] at HI; exact HI.out)
          clear HI
          go_wp2
          go_roundw
          case rel => exact ⟨k + 1, by omega, by go_num, HIx, hb, hN⟩
          case measure => simp [intOf]; omega
    · have hkn : k = n := by omega
      have HV := Lib.hid (pair_miss (l := xs.map (offBy · d t)) (by rw [HLM.out, ← upToP_end, ← hkn]; rw [← hkn] at HI; exact HI.out))
      have c4 : World.cell? _ _ = some _ := hb.cell 0
      have c5 : World.cell? _ _ = some _ := hb.cell 1
      have f4 := hb.free 0
      have f5 := hb.free 1
      have l4' := hb.lt
      have nF := (hN.setCell (p := ⟨w.heap.size, 0, none⟩) (Nat.le_refl _) (.int .i64 0)).setCell (p := ⟨w.heap.size, 1, none⟩) (Nat.le_refl _) (.int .i64 0)
      have b6 := (hb.set 0 (.int .i64 0)).set 1 (.int .i64 0)
      have e0 : World.cell? _ _ = some _ := b6.cell 0
      have e1 : World.cell? _ _ = some _ := b6.cell 1
      clear HI
      go_wp2
      exact bodyPost_ret (v := .tuple #[.agg #[.int .i64 0, .int .i64 0], .bool false]) (by simp [results, Try.results36, go_sem, e0, e1]) rfl ⟨by rw [HV.out], nF⟩
end Go.Proofs.Ytjpkcmlepjbamaa
