/- The walk of TopProfileTwoWays.
   The walk of TopProfileTwoWays: the inputs of which it says nothing; the whole. -/
import Derived.BigQuiet
import Derived.Deep.AppendLies
import Derived.Deep.DeepCutAuto
import Derived.Deep.Draws
import Derived.Deep.Quiet
import Derived.Deep.QuietTactic
import Derived.Lib.Hide
import Derived.LoopIn
import Derived.LoopNIn
import Derived.OrdersIn
import Derived.OwnWalk
import Derived.OwnWalkIn
import Derived.RangeFuncBound
import Derived.RangeFuncCalls
import Derived.RangeFuncLeaves
import Derived.RangeFuncNested
import Derived.Shelf.Abstract
import Derived.Shelf.RegionOpen
import Derived.StillTail
import Derived.TacticsIn
import Derived.TacticsInMore
import Derived.Test.YteabmmibmopnkaaProg
import Derived.WalkKit
import Derived.WalkLawsBesides
import Derived.WalkSpells
import Derived.Test.YteabmmibmopnkaaC12B
import Derived.Test.YteabmmibmopnkaaC12O

namespace Go.Proofs.Yteabmmibmopnkaa
open Go.RowKit Go.Sky

/-- Both ends of Laminated in one shape. -/
def LamFit (l : List Pt) (af wd : Int) (n nl : Nat) (ls : List (Int × Int)) (at_ ev : Int) : Prop :=
  ((lamS l af wd (n - 1)).2 = 0 ∧ ev = 0 ∧ at_ = 0 ∧ nl = n - 1 ∧ ls = (lamS l af wd (n - 1)).1) ∨ ((lamS l af wd (n - 1)).2 ≠ 0 ∧ ev = 13 ∧ at_ = (((lamS l af wd (n - 1)).2 : Nat) : Int) ∧ nl = 0 ∧ ls = [])
theorem lamRes_fit {w' : World} {l : List Pt} {af wd : Int} {n : Nat} {e : Ending} (h : LamRes w' l af wd n e) :
    ∃ (A : Option Addr) (nl cl : Nat) (at_ ev : Int) (ls : List (Int × Int)), e = .returned (.tuple #[.slice A nl cl, .int .i64 at_, .int .i64 ev]) ∧ Sky.Rd w' 2 encR2 A nl ls ∧ nl ≤ cl ∧ LamFit l af wd n nl ls at_ ev := by
  rcases h with ⟨A', c', h0, he, hrd, hle⟩ | ⟨h0, he⟩
  · exact ⟨A', n - 1, c', 0, 0, _, he, hrd, hle, .inl ⟨h0, rfl, rfl, rfl, rfl⟩⟩
  · exact ⟨none, 0, 0, _, 13, [], he, Rd.nil _ _ _ _, Nat.le_refl _, .inr ⟨h0, rfl, rfl, rfl, rfl⟩⟩

set_option maxRecDepth 100000 in
set_option maxHeartbeats 16000000 in
theorem two_in (l : List Pt) (af wd cut up : Int) (A : Option Addr) (n cap : Nat) (w : World) (ht : TrOk l af wd) (hcap : n ≤ cap) (hr : Rd w 3 encQ A n l) :
    Calls Try.prog 3 #[.agg #[.slice A n cap, .int .i64 af, .int .i64 wd], .int .i64 cut, .int .i64 up] w fun e w' => e = .returned (.bool true) ∧ New w w' := by
  have heq := eql_rng
  have hgu := guard_rng
  have hL := hr.len
  have hn0 : 0 < n := by have := ht.len0; omega
  have hn8 : n ≤ 8 := by have := ht.len8; omega
  have hn8' : ¬ (8 : Int) < (n : Int) := by omega
  have HR := Lib.hid hr; clear hr
  have HT := Lib.hid ht; clear ht
  obtain ⟨haf0, haf1⟩ := HT.out.af
  obtain ⟨N, hN, hN1, hN2⟩ : ∃ N : Nat, 1 + cut % (n : Int) = (N : Int) ∧ 1 ≤ N ∧ N ≤ n := by
    have h1 := Int.emod_nonneg cut (show (n : Int) ≠ 0 by omega)
    have h2 := Int.emod_lt_of_pos cut (show (0 : Int) < (n : Int) by omega)
    exact ⟨(1 + cut % (n : Int)).toNat, by omega, by omega, by omega⟩
  have HTP := Lib.hid (trOk_take HT.out (n := N) (by omega) (by omega))
  obtain ⟨AF, hAF⟩ : ∃ a, min af ((N : Int) - 1) = a := ⟨_, rfl⟩
  have HCUT := Lib.hid (lam_cut (l := l) (wd := wd) (n := N) haf0 (N - 1) (by omega))
  rw [hAF] at HTP HCUT
  have hAF2 : (af ≤ (N : Int) - 1 ∧ AF = af) ∨ ((N : Int) - 1 < af ∧ AF = (N : Int) - 1) := by omega
  clear hAF
  have hNc : (N : Int) ≤ (cap : Int) := by omega
  have hcut0 : (1 : Int) ≤ (n : Int) := by omega
  have b0 := Bx.mk w 24 #[.slice A n cap, .int .i64 af, .int .i64 wd]
  have N0 := (New.refl w).alloc (.cells #[.slice A n cap, .int .i64 af, .int .i64 wd] 24)
  go_enter Try.func3, Try.ntmps3
  go_wp2_with fail
  refine (profileAwake_any _).mono ?_
  rintro e w1 ⟨rfl, n1⟩
  have b1 := b0.keep n1
  have M1 := N0.trans n1
  clear b0 N0 n1
  have c0 : w1.cell? ⟨w.heap.size, 0, none⟩ = some (.slice A n cap) := b1.cell 0
  have c1 : w1.cell? ⟨w.heap.size, 1, none⟩ = some (.int .i64 af) := b1.cell 1
  have c2 : w1.cell? ⟨w.heap.size, 2, none⟩ = some (.int .i64 wd) := b1.cell 2
  have l1 := b1.lt
  go_wp2_with fail
  refine (refTraceErr_any l af wd A n cap _ (by omega) (HR.out.keep M1)).mono ?_
  rintro e w2 ⟨n2, E, rfl, hE⟩
  obtain rfl : E = 0 := hE.2 HT.out
  have b2 := b1.keep n2
  have M2 := M1.trans n2
  clear c0 c1 c2 l1 b1 M1 n2 hE
  have c0 : w2.cell? ⟨w.heap.size, 0, none⟩ = some (.slice A n cap) := b2.cell 0
  have c1 : w2.cell? ⟨w.heap.size, 1, none⟩ = some (.int .i64 af) := b2.cell 1
  have c2 : w2.cell? ⟨w.heap.size, 2, none⟩ = some (.int .i64 wd) := b2.cell 2
  have l2 := b2.lt
  go_wp2_with fail
  refine (Mod_any cut (n : Int) _ hcut0 (by omega)).mono ?_
  rintro e w' ⟨rfl, rfl⟩
  go_wp2_with fail
  refine (copyTrace_any l af wd A n cap _ (by omega) (HR.out.keep M2)).mono ?_
  rintro e w3 ⟨A3, c3, rfl, o3, n3⟩
  have hNc3 : (N : Int) ≤ (c3 : Int) := by have := o3.le.1; omega
  have bp := Bx.mk w3 24 #[.slice A3 n c3, .int .i64 af, .int .i64 wd]
  have np := (New.refl w3).alloc (.cells #[.slice A3 n c3, .int .i64 af, .int .i64 wd] 24)
  have HO3 := Lib.hid o3.rd
  have b3 := b2.keep n3
  have M3 := M2.trans n3
  clear c0 c1 c2 l2 b2 M2 n3 o3
  go_upto_region 8 with fail
  go_cut [] from 50 to 54 (fun wx => Bx wx w3.heap.size 24 #[.slice A3 N c3, .int .i64 AF, .int .i64 wd] ∧ New w3 wx)
  case first =>
    have bq := Bx.mk w3 24 #[.slice A3 N c3, .int .i64 af, .int .i64 wd]
    have nq := (New.refl w3).alloc (.cells #[.slice A3 N c3, .int .i64 af, .int .i64 wd] 24)
    rcases hAF2 with ⟨h, rfl⟩ | ⟨h, rfl⟩
    all_goals
      go_wp2_with fail
      go_meet
      exact ⟨Bx.mk _ _ _, (New.refl w3).alloc _⟩
  case rest =>
  obtain ⟨bp', np'⟩ := hcut
  clear bp np
  generalize wc = w4 at *
  have b4 := b3.keep np'
  have M4 := M3.trans np'
  have HPR := Lib.hid ((HO3.out.take hN2).keep np')
  have hw3 := bp'.lt
  have hw3b := b4.lt
  clear b3 M3 np' HO3
  have c0 : w4.cell? ⟨w.heap.size, 0, none⟩ = some (.slice A n cap) := b4.cell 0
  have c1 : w4.cell? ⟨w.heap.size, 1, none⟩ = some (.int .i64 af) := b4.cell 1
  have c2 : w4.cell? ⟨w.heap.size, 2, none⟩ = some (.int .i64 wd) := b4.cell 2
  obtain ⟨Bp, hBp⟩ : ∃ Bp, w3.heap.size = Bp := ⟨_, rfl⟩
  rw [hBp] at bp' hw3 ⊢
  clear hBp
  go_wp2_with fail
  refine (copyTrace_any l af wd A n cap _ (by omega) (HR.out.keep M4)).mono ?_
  rintro e w5 ⟨A5, c5, rfl, o5, n5⟩
  go_wp2_with fail
  refine (Laminated_any l af wd A5 n c5 _ HT.out o5.le.1 o5.rd).mono ?_
  rintro e w6 ⟨n6, hres⟩
  obtain ⟨Al, nl, cl, at1, ev1, ls1, rfl, r1, hle1, fit1⟩ := lamRes_fit hres
  have n56 := n5.trans n6
  have b6 := b4.keep n56
  have p6 := bp'.keep n56
  have M6 := M4.trans n56
  have HPR6 := Lib.hid (HPR.out.keep n56)
  have HR1 := Lib.hid r1
  clear c0 c1 c2 hw3 hw3b b4 bp' M4 HPR o5 n5 n6 n56 hres r1
  have c0 : w6.cell? ⟨Bp, 0, none⟩ = some (.slice A3 N c3) := p6.cell 0
  have c1 : w6.cell? ⟨Bp, 1, none⟩ = some (.int .i64 AF) := p6.cell 1
  have c2 : w6.cell? ⟨Bp, 2, none⟩ = some (.int .i64 wd) := p6.cell 2
  have lp := p6.lt
  go_wp2_with fail
  refine (copyTrace_any (l.take N) AF wd A3 N c3 _ (by omega) HPR6.out).mono ?_
  rintro e w7 ⟨A7, c7, rfl, o7, n7⟩
  go_wp2_with fail
  refine (Laminated_any (l.take N) AF wd A7 N c7 _ HTP.out o7.le.1 o7.rd).mono ?_
  rintro e w8 ⟨n8, hres⟩
  obtain ⟨Am, nm, cm, at2, ev2, ls2, rfl, r2, hle2, fit2⟩ := lamRes_fit hres
  have n78 := n7.trans n8
  have b8 := b6.keep n78
  have M8 := M6.trans n78
  have HR18 := Lib.hid (HR1.out.keep n78)
  have HR2 := Lib.hid r2
  clear c0 c1 c2 lp b6 p6 M6 HPR6 HR1 o7 n7 n8 n78 hres r2
  unfold LamFit at fit1 fit2
  rw [HCUT.out] at fit2
  obtain ⟨d, hd⟩ : ∃ d, n - 1 = (N - 1) + d := ⟨n - N, by omega⟩
  have c0 : w8.cell? ⟨w.heap.size, 0, none⟩ = some (.slice A n cap) := b8.cell 0
  have c1 : w8.cell? ⟨w.heap.size, 1, none⟩ = some (.int .i64 af) := b8.cell 1
  have c2 : w8.cell? ⟨w.heap.size, 2, none⟩ = some (.int .i64 wd) := b8.cell 2
  have l8 := b8.lt
  rcases fit2 with ⟨p0, rfl, rfl, hnm, hls2⟩ | ⟨p0, rfl, hat2, hnm, hls2⟩
  · rcases fit1 with ⟨t0, rfl, rfl, hnl, hls1⟩ | ⟨t0, rfl, hat1, hnl, hls1⟩
    · obtain ⟨K, hK, hKI⟩ : ∃ K : Nat, N - 1 = K ∧ (N : Int) - 1 = (K : Int) := ⟨N - 1, rfl, by omega⟩
      obtain ⟨m, hm, hmI⟩ : ∃ m : Nat, n - 1 = m ∧ (n : Int) - 1 = (m : Int) := ⟨n - 1, rfl, by omega⟩
      have hpre : ls2 = ls1.take (N - 1) := by
        rw [hls2, hls1]
        have h := lam_prefix (l := l) (af := af) (wd := wd) (k := N - 1) d (by rw [← hd]; exact t0)
        rw [← hd] at h
        exact h
      obtain rfl : nm = K := by rw [hnm, hK]
      obtain rfl : nl = m := by rw [hnl, hm]
      rw [hK] at hpre
      have hKle : nm ≤ nl := by omega
      have HRT := Lib.hid (HR18.out.take hKle)
      rw [← hpre] at HRT
      have T0 := Lib.hid t0
      have HM := Lib.hid hm
      have HLS := Lib.hid hls1
      have hm1 : n ≤ nl + 1 := by omega
      have hm2 : nl + 1 ≤ n := by omega
      have hkc0 : (0 : Int) ≤ (nm : Int) := by omega
      have hkc1 : (nm : Int) ≤ (cl : Int) := by omega
      have dk : ((nm : Int) != (nm : Int)) = false := by simp
      have dl : ((nl : Int) != (nl : Int)) = false := by simp
      clear hd hm hK t0 p0 hls1 hls2 hpre hnm hnl
      go_wp2_with fail
      refine (ranges_like Am Al nm cm cl ls2 _ (by omega) HR2.out HRT.out).mono ?_
      rintro e w8a ⟨rfl, n8a⟩
      have b8a := b8.keep n8a
      have M8a := M8.trans n8a
      have HR1a := Lib.hid (HR18.out.keep n8a)
      clear c0 c1 c2 l8 b8 M8 HR18 HR2 HRT n8a
      have c0 : w8a.cell? ⟨w.heap.size, 0, none⟩ = some (.slice A n cap) := b8a.cell 0
      have c1 : w8a.cell? ⟨w.heap.size, 1, none⟩ = some (.int .i64 af) := b8a.cell 1
      have c2 : w8a.cell? ⟨w.heap.size, 2, none⟩ = some (.int .i64 wd) := b8a.cell 2
      have l8 := b8a.lt
      go_wp2_with fail
      refine (Mod_any up 1000 _ (by omega) (by omega)).mono ?_
      rintro e w' ⟨rfl, rfl⟩
      obtain ⟨U, hU⟩ : ∃ U, up % 1000 = U := ⟨_, rfl⟩
      have hU0 : 0 ≤ U := by omega
      have hU1 : U < 1000 := by omega
      rw [hU]
      clear hU
      go_wp2_with fail
      refine (copyTrace_any l af wd A n cap _ (by omega) (HR.out.keep M8a)).mono ?_
      rintro e w9 ⟨A9, c9, rfl, o9, n9⟩
      obtain ⟨g, rfl, hgB, hgs⟩ : ∃ g, A9 = some ⟨g, 0, none⟩ ∧ w8a.heap.size ≤ g ∧ g < w9.heap.size := by
        rcases o9.form with ⟨_, h, _⟩ | ⟨g, h, h1, h2, _⟩
        · omega
        · exact ⟨g, h, h1, h2⟩
      have bm := Bx.mk w9 24 #[.slice (some ⟨g, 0, none⟩) n c9, .int .i64 af, .int .i64 wd]
      have o9' := o9.alloc (.cells #[.slice (some ⟨g, 0, none⟩) n c9, .int .i64 af, .int .i64 wd] 24)
      have n9' := n9.alloc (.cells #[.slice (some ⟨g, 0, none⟩) n c9, .int .i64 af, .int .i64 wd] 24)
      obtain ⟨Bm, hBm⟩ : ∃ Bm, w9.heap.size = Bm := ⟨_, rfl⟩
      have hBm2 := n9.size
      rw [hBm] at bm hgs hBm2
      have hc9 := o9.le.1
      clear o9 n9
      go_wp2_with fail
      obtain ⟨WA, hWA⟩ : ∃ WA, w9.alloc (.cells #[.slice (some ⟨g, 0, none⟩) n c9, .int .i64 af, .int .i64 wd] 24) = WA := ⟨_, rfl⟩
      rw [hWA] at bm o9' n9' ⊢
      clear hWA hBm
      go_loopw [16] (fun i wr => ∃ k : Nat, k ≤ n ∧ i = .int .i64 (k : Int) ∧ Hid (Sky.Own wr w8a.heap.size 38 3 encQ (some ⟨g, 0, none⟩) n c9 (movTo U l k)) ∧ Bx wr Bm 24 #[.slice (some ⟨g, 0, none⟩) n c9, .int .i64 af, .int .i64 wd] ∧ New w8a wr) (fun i _ => n - (intOf i).toNat)
      case atStart => exact ⟨0, by omega, rfl, by rw [movTo_zero]; exact o9', bm, n9'⟩
      case round =>
        clear bm o9' n9'
        obtain ⟨k, hk, rfl, HO, bm, nr⟩ := hrel
        have q0 : wr.cell? ⟨Bm, 0, none⟩ = some (.slice (some ⟨g, 0, none⟩) n c9) := bm.cell 0
        have q1 : wr.cell? ⟨Bm, 1, none⟩ = some (.int .i64 af) := bm.cell 1
        have q2 : wr.cell? ⟨Bm, 2, none⟩ = some (.int .i64 wd) := bm.cell 2
        have lm := bm.lt
        by_cases hlt : k < n
        · obtain ⟨x, hx⟩ : ∃ x, l[k]? = some x := ⟨_, List.getElem?_eq_getElem (by omega)⟩
          have hpt := HT.out.pt k (by omega)
          rw [ptAt_of hx] at hpt
          obtain ⟨_, x0, x1, x2⟩ := hpt
          have hmx := movTo_at (u := U) hx
          have HSTEP := Lib.hid (movTo_step (u := U) hx)
          obtain ⟨bo, oo, hA', hbo, hcc⟩ := HO.out.rd.some_ hn0
          injection hA' with hA'
          injection hA' with hA1 hA2
          subst hA1 hA2
          have y1 := hcc k x hmx 1 _ rfl
          have y2 := hcc k x hmx 2 _ rfl
          simp only [Nat.zero_add] at y1 y2
          have k0 : (0 : Int) ≤ (k : Int) := by omega
          have k1 : (k : Int) < (n : Int) := by omega
          have HMX := Lib.hid hmx
          clear hcc hx hmx
          go_wp2
          (refine wp_region_tail 15 (by kernel_rfl) (by kernel_rfl) ?_; simp only [List.take_succ_cons, List.take_zero, List.drop_succ_cons, List.drop_zero]; (repeat (go_big_quiet_step ((fail)))); refine wpQuiet_nil ?_)
          intro w5' n5'
          have o5' := HO.out.keep n5'
          have v1 := n5'.cell y1
          have v2 := n5'.cell y2
          have bm5 := bm.keep n5'
          have fr1 := o5'.free (k * 3 + 1)
          have HO6 := Lib.hid (o5'.setAt k 1 x ⟨x.f, x.lo + U, x.hi⟩ (.int .i64 (x.lo + U)) HMX.out rfl (by omega) (k * 3 + 1) rfl)
          have bm6 := bm5.far (p := ⟨g, k * 3 + 1, none⟩) (show Bm ≠ g by omega) (.int .i64 (x.lo + U))
          have n6' := (nr.trans n5').setCell (p := ⟨g, k * 3 + 1, none⟩) hgB (.int .i64 (x.lo + U))
          have z2 : (w5'.setCell ⟨g, k * 3 + 1, none⟩ (.int .i64 (x.lo + U))).cell? ⟨g, k * 3 + 2, none⟩ = some (.int .i64 x.hi) := by
            have h := HO6.out.rd
            obtain ⟨b3, o3, hA', _, hcc⟩ := h.some_ hn0
            injection hA' with hA'
            injection hA' with hA1 hA2
            subst hA1 hA2
            have hl : k < (movTo U l k).length := by rw [movTo_len]; omega
            have h2 := hcc k ⟨x.f, x.lo + U, x.hi⟩ (by rw [List.getElem?_set_self hl]) 2 _ rfl
            simp only [Nat.zero_add] at h2
            exact h2
          clear o5' bm5 y1 y2 v2 q0 q1 q2 lm
          go_wp2
          generalize w5'.setCell ⟨g, k * 3 + 1, none⟩ (.int .i64 (x.lo + U)) = w6' at HO6 bm6 n6' z2 ⊢
          have q0 : w6'.cell? ⟨Bm, 0, none⟩ = some (.slice (some ⟨g, 0, none⟩) n c9) := bm6.cell 0
          have lm := bm6.lt
          have hg6 := (HO6.out.rd.some_ hn0)
          have hgl : g < w6'.heap.size := by
            obtain ⟨b3, o3, hA', hb3, _⟩ := hg6
            injection hA' with hA'
            injection hA' with hA1 hA2
            subst hA1
            exact hb3
          clear hg6
          (refine wp_region_tail 15 (by kernel_rfl) (by kernel_rfl) ?_; simp only [List.take_succ_cons, List.take_zero, List.drop_succ_cons, List.drop_zero]; (repeat (go_big_quiet_step ((fail)))); refine wpQuiet_nil ?_)
          intro w7' n7'
          have o7' := HO6.out.keep n7'
          have v2 := n7'.cell z2
          have bm7 := bm6.keep n7'
          have fr2 := o7'.free (k * 3 + 2)
          have hl : k < (movTo U l k).length := by rw [movTo_len]; omega
          have HO8 := Lib.hid (o7'.setAt k 2 ⟨x.f, x.lo + U, x.hi⟩ (movP U x) (.int .i64 (x.hi + U)) (by rw [List.getElem?_set_self hl]) rfl (by omega) (k * 3 + 2) rfl)
          rw [List.set_set, HSTEP.out] at HO8
          have bm8 := bm7.far (p := ⟨g, k * 3 + 2, none⟩) (show Bm ≠ g by omega) (.int .i64 (x.hi + U))
          have n8' := (n6'.trans n7').setCell (p := ⟨g, k * 3 + 2, none⟩) hgB (.int .i64 (x.hi + U))
          clear o7' bm7 z2 q0 lm hgl
          go_wp2
          go_roundw
          case rel => exact ⟨k + 1, by omega, by go_num, HO8, bm8, n8'⟩
          case measure => simp [intOf]; omega
        · obtain rfl : n = k := by omega
          have HMV := Lib.hid (show Sky.Rd wr 3 encQ (some ⟨g, 0, none⟩) n (l.map (movP U)) by
            have h := HO.out.rd
            rw [movTo_all U l n (by omega)] at h
            exact h)
          have hLm : (l.map (movP U)).length = n := by rw [List.length_map]; exact hL
          have Mr := M8a.trans nr
          go_wp2_with fail
          refine (refTraceErr_any (l.map (movP U)) af wd _ n c9 _ (by omega) HMV.out).mono ?_
          rintro e wE ⟨nE, E3, rfl, hE3⟩
          have bmE := bm.keep nE
          have ME := Mr.trans nE
          have nrE := nr.trans nE
          have HMVE := Lib.hid (HMV.out.keep nE)
          clear q0 q1 q2 lm bm HMV HO Mr nE nr
          have q0 : wE.cell? ⟨Bm, 0, none⟩ = some (.slice (some ⟨g, 0, none⟩) n c9) := bmE.cell 0
          have q1 : wE.cell? ⟨Bm, 1, none⟩ = some (.int .i64 af) := bmE.cell 1
          have q2 : wE.cell? ⟨Bm, 2, none⟩ = some (.int .i64 wd) := bmE.cell 2
          have lm := bmE.lt
          by_cases h3 : E3 = 0
          · have HTM := Lib.hid (hE3.1 h3)
            have HMOV := Lib.hid (lam_mov (u := U) (wd := wd) ⟨haf0, haf1⟩ (n - 1) (by omega))
            subst h3
            clear hE3
            go_wp2_with fail
            refine (copyTrace_any (l.map (movP U)) af wd _ n c9 _ (by omega) HMVE.out).mono ?_
            rintro e wF ⟨AF', cF, rfl, oF, nF⟩
            go_wp2_with fail
            refine (Laminated_any (l.map (movP U)) af wd AF' n cF _ HTM.out oF.le.1 oF.rd).mono ?_
            rintro e wG ⟨nG, hres⟩
            obtain ⟨Ak, nk, ck, at3, ev3, ls3, rfl, r3, hle3, fit3⟩ := lamRes_fit hres
            unfold LamFit at fit3
            rw [HMOV.out] at fit3
            have nFG := nF.trans nG
            have MG := ME.trans nFG
            have bmG := bmE.keep nFG
            have nrG := nrE.trans nFG
            have HMVG := Lib.hid (HMVE.out.keep nFG)
            have HR3 := Lib.hid r3
            have HFIT := Lib.hid fit3
            clear fit3
            clear q0 q1 q2 lm bmE oF nF nG nFG hres r3 ME HMVE nrE
            rcases HFIT.out with ⟨u0, rfl, rfl, hnk, hls3⟩ | ⟨u0, _⟩
            · obtain rfl : nk = nl := by rw [hnk, HM.out]
              obtain rfl : ls3 = ls1 := by rw [hls3, HLS.out]
              have HU0 := Lib.hid u0
              clear hnk hls3 u0 HFIT
              go_wp2_with fail
              refine (ranges_like Ak Al nk ck cl ls3 _ (by omega) HR3.out (HR1a.out.keep nrG)).mono ?_
              rintro e wH ⟨rfl, nH⟩
              have bH := (b8a.keep nrG).keep nH
              have bmH := bmG.keep nH
              have MH := MG.trans nH
              have HMVH := Lib.hid (HMVG.out.keep nH)
              clear bmG nrG nH MG HMVG HR3 HR1a
              have c0 : wH.cell? ⟨w.heap.size, 0, none⟩ = some (.slice A n cap) := bH.cell 0
              have c1 : wH.cell? ⟨w.heap.size, 1, none⟩ = some (.int .i64 af) := bH.cell 1
              have c2 : wH.cell? ⟨w.heap.size, 2, none⟩ = some (.int .i64 wd) := bH.cell 2
              have lH := bH.lt
              go_wp2_with fail
              refine (copyTrace_any l af wd A n cap _ (by omega) (HR.out.keep MH)).mono ?_
              rintro e wI ⟨AI, cI, rfl, oI, nI⟩
              go_wp2_with fail
              refine (HeightsOf_ok l af wd AI n cI _ HT.out oI.le.1 oI.rd HU0.out).mono ?_
              rintro e wJ ⟨nJ, AJ, cJ, rfl, rJ, hleJ⟩
              have nIJ := nI.trans nJ
              have bJ := bH.keep nIJ
              have bmJ := bmH.keep nIJ
              have MJ := MH.trans nIJ
              have HMVJ := Lib.hid (HMVH.out.keep nIJ)
              have HRJ := Lib.hid rJ
              clear c0 c1 c2 lH bH bmH MH HMVH oI nI nJ nIJ rJ
              have q0 : wJ.cell? ⟨Bm, 0, none⟩ = some (.slice (some ⟨g, 0, none⟩) n c9) := bmJ.cell 0
              have q1 : wJ.cell? ⟨Bm, 1, none⟩ = some (.int .i64 af) := bmJ.cell 1
              have q2 : wJ.cell? ⟨Bm, 2, none⟩ = some (.int .i64 wd) := bmJ.cell 2
              have lm := bmJ.lt
              go_wp2_with fail
              refine (HeightsOf_ok (l.map (movP U)) af wd _ n c9 _ HTM.out hc9 HMVJ.out (by rw [HMOV.out]; exact HU0.out)).mono ?_
              rintro e wK ⟨nK, AK, cK, rfl, rK, hleK⟩
              rw [HMOV.out] at rK
              have bK := bJ.keep nK
              have MK := MJ.trans nK
              have HRJK := Lib.hid (HRJ.out.keep nK)
              have HRK := Lib.hid rK
              clear q0 q1 q2 lm bJ bmJ MJ HMVJ HRJ nK rK
              have c0 : wK.cell? ⟨w.heap.size, 0, none⟩ = some (.slice A n cap) := bK.cell 0
              have lK := bK.lt
              have dn : ((n : Int) != (n : Int)) = false := by simp
              go_wp2_with fail
              go_loopw [24] (fun i wr => ∃ j : Nat, j ≤ n ∧ i = .int .i64 (j : Int) ∧ New wK wr) (fun i _ => n - (intOf i).toNat)
              case atStart => exact ⟨0, by omega, rfl, New.refl _⟩
              case round =>
                obtain ⟨j, hj, rfl, nr⟩ := hrel
                by_cases hlt : j < n
                · obtain ⟨b1, o1, x, rfl, hb1, hx, hcx⟩ := (HRJK.out.keep nr).at_ hlt
                  obtain ⟨b2, o2, y, rfl, hb2, hy, hcy⟩ := (HRK.out.keep nr).at_ hlt
                  rw [hts_at hlt] at hx hy
                  injection hx with hx
                  injection hy with hy
                  have hyx : y = (x.1 + U, x.2 + U) := by rw [← hy, ht_mov (by omega), hx]
                  have hs := sumH_in HT.out (lam_ok HT.out (n - 1) (by omega)) j
                  have hv := val_in HT.out j
                  have hx1 : x.1 = (sumH l (lamS l af wd (n - 1)).1 j).1 := by rw [← hx]; rfl
                  have hx2 : x.2 = (sumH l (lamS l af wd (n - 1)).1 j).2 + valS af wd j := by rw [← hx]; rfl
                  have e1 : 0 ≤ x.1 := by omega
                  have e2 : x.1 ≤ x.2 := by omega
                  have e3 : x.2 ≤ 1000000 := by omega
                  subst hyx
                  have x0 := hcx 0 _ rfl
                  have x1 := hcx 1 _ rfl
                  have y0 := hcy 0 _ rfl
                  have y1 := hcy 1 _ rfl
                  simp only [Nat.add_zero] at x0 y0
                  have j0 : (0 : Int) ≤ (j : Int) := by omega
                  have j1 : (j : Int) < (n : Int) := by omega
                  have HW1 := Lib.hid (inR_true e1 (show x.1 ≤ 1099511627776 by omega))
                  have HW2 := Lib.hid (inR_true e2 (show x.2 ≤ 1099511627776 by omega))
                  have d1 : (x.1 + U == x.1 + U) = true := by simp
                  have d2 : (x.2 + U == x.2 + U) = true := by simp
                  clear hx hy hs hv hx1 hx2 hcx hcy
                  go_wp2
                  (refine wp_region_new (by kernel_rfl) (by kernel_rfl) ?_; (repeat (go_big_quiet_step ((first | (go_at_call 14; exact quiet_same (bWithin_is _ _ _ true _ HW1.out)) | (go_at_call 14; exact quiet_same (bWithin_is _ _ _ true _ HW2.out)))))); refine wpQuiet_nil ?_)
                  intro w5' n5'
                  go_wp2
                  go_roundw
                  case rel => exact ⟨j + 1, by omega, by go_num, nr.trans n5'⟩
                  case measure => simp [intOf]; omega
                · go_wp2
                  go_ret
                  exact ⟨rfl, MK.trans nr⟩
            · exact absurd T0.out u0
          · have d3 : (E3 != 0) = true := by simpa using h3
            clear hE3
            go_wp2
            go_ret
            exact ⟨rfl, ME⟩
    · have hlo := lam_lo p0 d (by rw [← hd]; exact t0)
      rw [← hd] at hlo
      have hhi := lam_at (l := l) (af := af) (wd := wd) (n - 1)
      obtain ⟨K, hK, hKI⟩ : ∃ K : Nat, N - 1 = K ∧ (N : Int) - 1 = (K : Int) := ⟨N - 1, rfl, by omega⟩
      obtain ⟨m, hm, hmI⟩ : ∃ m : Nat, n - 1 = m ∧ (n : Int) - 1 = (m : Int) := ⟨n - 1, rfl, by omega⟩
      obtain rfl : nm = K := by rw [hnm, hK]
      have HIN := Lib.hid (show inR at1 (N : Int) (m : Int) = true from inR_true (by omega) (by omega))
      have dk : ((nm : Int) != (nm : Int)) = false := by simp
      have HAT1 := Lib.hid hat1
      have T0 := Lib.hid t0
      have P0 := Lib.hid p0
      subst hnl hls1
      have hm1 : n ≤ m + 1 := by omega
      have hm2 : m + 1 ≤ n := by omega
      have HM := Lib.hid hm
      clear hlo hhi hd hm hK hat1 t0 p0 hls2
      go_wp2_with fail
      refine (bWithin_is _ _ _ true _ HIN.out).mono ?_
      rintro e w' ⟨rfl, rfl⟩
      go_wp2_with fail
      refine (Mod_any up 1000 _ (by omega) (by omega)).mono ?_
      rintro e w' ⟨rfl, rfl⟩
      obtain ⟨U, hU⟩ : ∃ U, up % 1000 = U := ⟨_, rfl⟩
      have hU0 : 0 ≤ U := by omega
      have hU1 : U < 1000 := by omega
      rw [hU]
      clear hU
      go_wp2_with fail
      refine (copyTrace_any l af wd A n cap _ (by omega) (HR.out.keep M8)).mono ?_
      rintro e w9 ⟨A9, c9, rfl, o9, n9⟩
      obtain ⟨g, rfl, hgB, hgs⟩ : ∃ g, A9 = some ⟨g, 0, none⟩ ∧ w8.heap.size ≤ g ∧ g < w9.heap.size := by
        rcases o9.form with ⟨_, h, _⟩ | ⟨g, h, h1, h2, _⟩
        · omega
        · exact ⟨g, h, h1, h2⟩
      have bm := Bx.mk w9 24 #[.slice (some ⟨g, 0, none⟩) n c9, .int .i64 af, .int .i64 wd]
      have o9' := o9.alloc (.cells #[.slice (some ⟨g, 0, none⟩) n c9, .int .i64 af, .int .i64 wd] 24)
      have n9' := n9.alloc (.cells #[.slice (some ⟨g, 0, none⟩) n c9, .int .i64 af, .int .i64 wd] 24)
      obtain ⟨Bm, hBm⟩ : ∃ Bm, w9.heap.size = Bm := ⟨_, rfl⟩
      have hBm2 := n9.size
      rw [hBm] at bm hgs hBm2
      have hc9 := o9.le.1
      clear o9 n9
      go_wp2_with fail
      obtain ⟨WA, hWA⟩ : ∃ WA, w9.alloc (.cells #[.slice (some ⟨g, 0, none⟩) n c9, .int .i64 af, .int .i64 wd] 24) = WA := ⟨_, rfl⟩
      rw [hWA] at bm o9' n9' ⊢
      clear hWA hBm
      go_loopw [16] (fun i wr => ∃ k : Nat, k ≤ n ∧ i = .int .i64 (k : Int) ∧ Hid (Sky.Own wr w8.heap.size 38 3 encQ (some ⟨g, 0, none⟩) n c9 (movTo U l k)) ∧ Bx wr Bm 24 #[.slice (some ⟨g, 0, none⟩) n c9, .int .i64 af, .int .i64 wd] ∧ New w8 wr) (fun i _ => n - (intOf i).toNat)
      case atStart => exact ⟨0, by omega, rfl, by rw [movTo_zero]; exact o9', bm, n9'⟩
      case round =>
        clear bm o9' n9'
        obtain ⟨k, hk, rfl, HO, bm, nr⟩ := hrel
        have q0 : wr.cell? ⟨Bm, 0, none⟩ = some (.slice (some ⟨g, 0, none⟩) n c9) := bm.cell 0
        have q1 : wr.cell? ⟨Bm, 1, none⟩ = some (.int .i64 af) := bm.cell 1
        have q2 : wr.cell? ⟨Bm, 2, none⟩ = some (.int .i64 wd) := bm.cell 2
        have lm := bm.lt
        by_cases hlt : k < n
        · obtain ⟨x, hx⟩ : ∃ x, l[k]? = some x := ⟨_, List.getElem?_eq_getElem (by omega)⟩
          have hpt := HT.out.pt k (by omega)
          rw [ptAt_of hx] at hpt
          obtain ⟨_, x0, x1, x2⟩ := hpt
          have hmx := movTo_at (u := U) hx
          have HSTEP := Lib.hid (movTo_step (u := U) hx)
          obtain ⟨bo, oo, hA', hbo, hcc⟩ := HO.out.rd.some_ hn0
          injection hA' with hA'
          injection hA' with hA1 hA2
          subst hA1 hA2
          have y1 := hcc k x hmx 1 _ rfl
          have y2 := hcc k x hmx 2 _ rfl
          simp only [Nat.zero_add] at y1 y2
          have k0 : (0 : Int) ≤ (k : Int) := by omega
          have k1 : (k : Int) < (n : Int) := by omega
          have HMX := Lib.hid hmx
          clear hcc hx hmx
          go_wp2
          (refine wp_region_tail 15 (by kernel_rfl) (by kernel_rfl) ?_; simp only [List.take_succ_cons, List.take_zero, List.drop_succ_cons, List.drop_zero]; (repeat (go_big_quiet_step ((fail)))); refine wpQuiet_nil ?_)
          intro w5' n5'
          have o5' := HO.out.keep n5'
          have v1 := n5'.cell y1
          have v2 := n5'.cell y2
          have bm5 := bm.keep n5'
          have fr1 := o5'.free (k * 3 + 1)
          have HO6 := Lib.hid (o5'.setAt k 1 x ⟨x.f, x.lo + U, x.hi⟩ (.int .i64 (x.lo + U)) HMX.out rfl (by omega) (k * 3 + 1) rfl)
          have bm6 := bm5.far (p := ⟨g, k * 3 + 1, none⟩) (show Bm ≠ g by omega) (.int .i64 (x.lo + U))
          have n6' := (nr.trans n5').setCell (p := ⟨g, k * 3 + 1, none⟩) hgB (.int .i64 (x.lo + U))
          have z2 : (w5'.setCell ⟨g, k * 3 + 1, none⟩ (.int .i64 (x.lo + U))).cell? ⟨g, k * 3 + 2, none⟩ = some (.int .i64 x.hi) := by
            have h := HO6.out.rd
            obtain ⟨b3, o3, hA', _, hcc⟩ := h.some_ hn0
            injection hA' with hA'
            injection hA' with hA1 hA2
            subst hA1 hA2
            have hl : k < (movTo U l k).length := by rw [movTo_len]; omega
            have h2 := hcc k ⟨x.f, x.lo + U, x.hi⟩ (by rw [List.getElem?_set_self hl]) 2 _ rfl
            simp only [Nat.zero_add] at h2
            exact h2
          clear o5' bm5 y1 y2 v2 q0 q1 q2 lm
          go_wp2
          generalize w5'.setCell ⟨g, k * 3 + 1, none⟩ (.int .i64 (x.lo + U)) = w6' at HO6 bm6 n6' z2 ⊢
          have q0 : w6'.cell? ⟨Bm, 0, none⟩ = some (.slice (some ⟨g, 0, none⟩) n c9) := bm6.cell 0
          have lm := bm6.lt
          have hg6 := (HO6.out.rd.some_ hn0)
          have hgl : g < w6'.heap.size := by
            obtain ⟨b3, o3, hA', hb3, _⟩ := hg6
            injection hA' with hA'
            injection hA' with hA1 hA2
            subst hA1
            exact hb3
          clear hg6
          (refine wp_region_tail 15 (by kernel_rfl) (by kernel_rfl) ?_; simp only [List.take_succ_cons, List.take_zero, List.drop_succ_cons, List.drop_zero]; (repeat (go_big_quiet_step ((fail)))); refine wpQuiet_nil ?_)
          intro w7' n7'
          have o7' := HO6.out.keep n7'
          have v2 := n7'.cell z2
          have bm7 := bm6.keep n7'
          have fr2 := o7'.free (k * 3 + 2)
          have hl : k < (movTo U l k).length := by rw [movTo_len]; omega
          have HO8 := Lib.hid (o7'.setAt k 2 ⟨x.f, x.lo + U, x.hi⟩ (movP U x) (.int .i64 (x.hi + U)) (by rw [List.getElem?_set_self hl]) rfl (by omega) (k * 3 + 2) rfl)
          rw [List.set_set, HSTEP.out] at HO8
          have bm8 := bm7.far (p := ⟨g, k * 3 + 2, none⟩) (show Bm ≠ g by omega) (.int .i64 (x.hi + U))
          have n8' := (n6'.trans n7').setCell (p := ⟨g, k * 3 + 2, none⟩) hgB (.int .i64 (x.hi + U))
          clear o7' bm7 z2 q0 lm hgl
          go_wp2
          go_roundw
          case rel => exact ⟨k + 1, by omega, by go_num, HO8, bm8, n8'⟩
          case measure => simp [intOf]; omega
        · obtain rfl : n = k := by omega
          have HMV := Lib.hid (show Sky.Rd wr 3 encQ (some ⟨g, 0, none⟩) n (l.map (movP U)) by
            have h := HO.out.rd
            rw [movTo_all U l n (by omega)] at h
            exact h)
          have hLm : (l.map (movP U)).length = n := by rw [List.length_map]; exact hL
          have Mr := M8.trans nr
          go_wp2_with fail
          refine (refTraceErr_any (l.map (movP U)) af wd _ n c9 _ (by omega) HMV.out).mono ?_
          rintro e wE ⟨nE, E3, rfl, hE3⟩
          have bmE := bm.keep nE
          have ME := Mr.trans nE
          have nrE := nr.trans nE
          have HMVE := Lib.hid (HMV.out.keep nE)
          clear q0 q1 q2 lm bm HMV HO Mr nE nr
          have q0 : wE.cell? ⟨Bm, 0, none⟩ = some (.slice (some ⟨g, 0, none⟩) n c9) := bmE.cell 0
          have q1 : wE.cell? ⟨Bm, 1, none⟩ = some (.int .i64 af) := bmE.cell 1
          have q2 : wE.cell? ⟨Bm, 2, none⟩ = some (.int .i64 wd) := bmE.cell 2
          have lm := bmE.lt
          by_cases h3 : E3 = 0
          · have HTM := Lib.hid (hE3.1 h3)
            have HMOV := Lib.hid (lam_mov (u := U) (wd := wd) ⟨haf0, haf1⟩ (n - 1) (by omega))
            subst h3
            clear hE3
            go_wp2_with fail
            refine (copyTrace_any (l.map (movP U)) af wd _ n c9 _ (by omega) HMVE.out).mono ?_
            rintro e wF ⟨AF', cF, rfl, oF, nF⟩
            go_wp2_with fail
            refine (Laminated_any (l.map (movP U)) af wd AF' n cF _ HTM.out oF.le.1 oF.rd).mono ?_
            rintro e wG ⟨nG, hres⟩
            obtain ⟨Ak, nk, ck, at3, ev3, ls3, rfl, r3, hle3, fit3⟩ := lamRes_fit hres
            unfold LamFit at fit3
            rw [HMOV.out] at fit3
            have nFG := nF.trans nG
            have MG := ME.trans nFG
            have bmG := bmE.keep nFG
            have nrG := nrE.trans nFG
            have HMVG := Lib.hid (HMVE.out.keep nFG)
            have HR3 := Lib.hid r3
            have HFIT := Lib.hid fit3
            clear fit3
            clear q0 q1 q2 lm bmE oF nF nG nFG hres r3 ME HMVE nrE
            rcases HFIT.out with ⟨u0, _⟩ | ⟨u0, rfl, hat3, rfl, rfl⟩
            · exact absurd u0 T0.out
            · obtain rfl : at3 = at1 := by rw [hat3, HAT1.out]
              have de : (at3 != at3) = false := by simp
              clear hat3
              go_wp2_with fail
              refine (ranges_like Ak Al 0 ck cl [] _ (by omega) HR3.out (Rd.nil _ _ _ _)).mono ?_
              rintro e wH ⟨rfl, nH⟩
              go_wp2
              go_ret
              exact ⟨rfl, MG.trans nH⟩
          · have d3 : (E3 != 0) = true := by simpa using h3
            clear hE3
            go_wp2
            go_ret
            exact ⟨rfl, ME⟩
  · -- the part contradicts: so does the whole, at the same point
    have hTP : lamS l af wd (n - 1) = lamS l af wd (N - 1) := lam_stop p0 (n - 1) (by omega)
    rcases fit1 with ⟨t0, _⟩ | ⟨t0, rfl, hat1, hnl, hls1⟩
    · exact absurd (by rw [← hTP]; exact t0) p0
    · have he : at1 = at2 := by rw [hat1, hat2, hTP]
      subst he
      have de : (at1 == at1) = true := by simp
      clear hTP p0 t0 hat1 hat2 hls1 hls2 hd
      go_wp2
      go_ret
      exact ⟨rfl, M8⟩
end Go.Proofs.Yteabmmibmopnkaa

namespace Go.Proofs.Yteabmmibmopnkaa
open Go.RowKit Go.Sky

set_option maxRecDepth 100000 in
set_option maxHeartbeats 4000000 in
theorem two_any (l : List Pt) (af wd cut up : Int) (A : Option Addr) (n cap : Nat) (w : World) (hcap : n ≤ cap) (hr : Rd w 3 encQ A n l) :
    Calls Try.prog 3 #[.agg #[.slice A n cap, .int .i64 af, .int .i64 wd], .int .i64 cut, .int .i64 up] w fun e w' => e = .returned (.bool true) ∧ New w w' := by
  by_cases ht : TrOk l af wd
  · exact two_in l af wd cut up A n cap w ht hcap hr
  · have HT := Lib.hid ht
    have HR := Lib.hid hr
    clear ht hr
    have b0 := Bx.mk w 24 #[.slice A n cap, .int .i64 af, .int .i64 wd]
    have N0 := (New.refl w).alloc (.cells #[.slice A n cap, .int .i64 af, .int .i64 wd] 24)
    by_cases h8 : 8 < n
    · have h8' : (8 : Int) < (n : Int) := by omega
      go_enter Try.func3, Try.ntmps3
      go_wp2_with fail
      refine (profileAwake_any _).mono ?_
      rintro e w1 ⟨rfl, n1⟩
      have b1 := b0.keep n1
      have M1 := N0.trans n1
      clear b0 N0 n1
      have c0 : w1.cell? ⟨w.heap.size, 0, none⟩ = some (.slice A n cap) := b1.cell 0
      have l1 := b1.lt
      go_wp2
      go_ret
      exact ⟨rfl, M1⟩
    · have h8' : ¬ (8 : Int) < (n : Int) := by omega
      go_enter Try.func3, Try.ntmps3
      go_wp2_with fail
      refine (profileAwake_any _).mono ?_
      rintro e w1 ⟨rfl, n1⟩
      have b1 := b0.keep n1
      have M1 := N0.trans n1
      clear b0 N0 n1
      have c0 : w1.cell? ⟨w.heap.size, 0, none⟩ = some (.slice A n cap) := b1.cell 0
      have c1 : w1.cell? ⟨w.heap.size, 1, none⟩ = some (.int .i64 af) := b1.cell 1
      have c2 : w1.cell? ⟨w.heap.size, 2, none⟩ = some (.int .i64 wd) := b1.cell 2
      have l1 := b1.lt
      go_wp2_with fail
      refine (refTraceErr_any l af wd A n cap _ (by omega) (HR.out.keep M1)).mono ?_
      rintro e w2 ⟨n2, E, rfl, hE⟩
      have hne : E ≠ 0 := fun h => HT.out (hE.1 h)
      have dE : (E != 0) = true := by simpa using hne
      clear hE hne
      go_wp2
      go_ret
      exact ⟨rfl, M1.trans n2⟩
end Go.Proofs.Yteabmmibmopnkaa
