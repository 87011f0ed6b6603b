/- Contract of chapter 4: laminated.
   Contracts of chapter 4: Laminated, HeightsOf. -/
import Derived.BigQuiet
import Derived.Deep.AppendLies
import Derived.Deep.DeepCutAuto
import Derived.Deep.Draws
import Derived.Deep.Quiet
import Derived.Deep.QuietTactic
import Derived.Lib.Hide
import Derived.OrdersIn
import Derived.OwnWalk
import Derived.OwnWalkIn
import Derived.RangeFuncCalls
import Derived.StillTail
import Derived.TacticsIn
import Derived.Test.YteabmmibmopnkaaProg
import Derived.WalkKit
import Derived.WalkLawsBesides
import Derived.WalkSpells
import Derived.Test.YteabmmibmopnkaaC12I
import Derived.Test.YteabmmibmopnkaaC12J

namespace Go.Proofs.Yteabmmibmopnkaa
open Go.RowKit Go.Sky

def LamPost (w' : World) (l : List Pt) (af wd : Int) (n : Nat) (e : Ending) : Prop :=
  (∃ A' c', (lamS l af wd (n - 1)).2 = 0 ∧ e = .returned (.tuple #[.slice A' (n - 1) c', .int .i64 0, .bool true]) ∧ Sky.Rd w' 2 encR2 A' (n - 1) (lamS l af wd (n - 1)).1 ∧ n - 1 ≤ c') ∨
  ((lamS l af wd (n - 1)).2 ≠ 0 ∧ e = .returned (.tuple #[.slice none 0 0, .int .i64 (((lamS l af wd (n - 1)).2 : Nat) : Int), .bool false]))

theorem pFloor_is (n b q : Int) (w : World) (hb : 1 ≤ b) (hb1 : b ≤ 1000000000) (hn : -4000000000000000 ≤ n) (hn1 : n ≤ 4000000000000000) (h : n / b = q) :
    Calls Try.prog 100 #[.int .i64 n, .int .i64 b] w fun e w' => e = .returned (.int .i64 q) ∧ w = w' := h ▸ pFloor_any n b w hb hb1 hn hn1
theorem pCeil_is (n b q : Int) (w : World) (hb : 1 ≤ b) (hb1 : b ≤ 1000000000) (hn : -4000000000000000 ≤ n) (hn1 : n ≤ 4000000000000000) (h : -((-n) / b) = q) :
    Calls Try.prog 101 #[.int .i64 n, .int .i64 b] w fun e w' => e = .returned (.int .i64 q) ∧ w = w' := h ▸ pCeil_any n b w hb hb1 hn hn1
theorem field_hi (a b : Int) (W : World) : (Instr.field 36 (.agg #[.int .i64 a, .int .i64 b]) 1).run Try.prog W = .ok (.int .i64 b) W := by kernel_rfl
theorem square_is (l : List Pt) (af wd : Int) (A : Option Addr) (n cap j : Nat) (i sq : Int) (w : World) (hi : i = (j : Int)) (hj : j < n) (hf : 1 ≤ (ptAt l j).f ∧ (ptAt l j).f ≤ 3000) (h : sqAt l j = sq) (hr : Rd w 3 encQ A n l) :
    Calls Try.prog 99 #[.agg #[.slice A n cap, .int .i64 af, .int .i64 wd], .int .i64 i] w fun e w' => e = .returned (.int .i64 sq) ∧ New w w' := by
  subst hi h
  exact square_any l af wd A n cap j w hj hf hr
theorem valley_is (af wd : Int) (A : Option Addr) (n cap k : Nat) (i v : Int) (w : World) (hk : k ≤ 1000) (hi : i = (k : Int)) (h : valS af wd k = v) :
    Calls Try.prog 47 #[.agg #[.slice A n cap, .int .i64 af, .int .i64 wd], .int .i64 i] w fun e w' => e = .returned (.int .i64 v) ∧ New w w' := by
  subst hi h
  exact valley_any af wd A n cap k w hk

/-- One further slab, or none. -/
theorem lam_step {l : List Pt} {af wd : Int} {k : Nat} {O : List (Int × Int)} {AB : Nat → Int × Int} (h0 : (lamS l af wd k).2 = 0) (hO : (lamS l af wd k).1 = O) (hAB : abTo l (ptAt l (k + 1)).f O (ab0 l k) = AB) :
    lamS l af wd (k + 1) = if (AB k).2 < 0 then ([], k + 1) else (O ++ [slabS l k (aS l af wd k (AB k).1) (AB k).2], 0) := by
  rw [lamS, if_neg (by rw [h0]; simp), hO, hAB]

set_option maxRecDepth 100000 in
set_option maxHeartbeats 8000000 in
theorem lam_one (l : List Pt) (af wd : Int) (A : Option Addr) (cap : Nat) (w : World) (_ht : TrOk l af wd) (hcap : 1 ≤ cap) (hr : Rd w 3 encQ A 1 l) :
    Calls Try.prog 45 #[.agg #[.slice A 1 cap, .int .i64 af, .int .i64 wd]] w fun e w' => New w w' ∧ LamPost w' l af wd 1 e := by
  obtain ⟨b, o, x, rfl, hb, hx, hc⟩ := hr.at_ (show 0 < 1 by omega)
  have g1 := hc 1 _ rfl
  have g2 := hc 2 _ rfl
  simp only [Nat.zero_mul, Nat.add_zero] at g1 g2
  have N0 := ((New.refl w).alloc (.cells #[.slice (some ⟨b, o, none⟩) 1 cap, .int .i64 af, .int .i64 wd] 94)).alloc (.cells #[.int .i64 x.lo, .int .i64 x.hi] 36)
  clear hr hx hc _ht
  rcases (show cap = 1 ∨ ¬ cap = 1 by omega) with rfl | hc1
  all_goals
    go_enter Try.func45, Try.ntmps45
    go_wp2
    go_loopw [5, 7, 8, 9, 10, 11, 12, 13, 14, 15, 16, 28] (fun v5 _ _ _ _ _ _ _ _ _ _ i wr => v5 = .slice none 0 0 ∧ i = .int .i64 0 ∧ New w wr) (fun _ _ _ _ _ _ _ _ _ _ _ _ _ => 0)
    case atStart => exact ⟨rfl, rfl, N0⟩
    case round =>
      obtain ⟨rfl, rfl, hN⟩ := hrel
      go_wp2
      go_ret3
      exact ⟨hN, .inl ⟨none, 0, rfl, rfl, Rd.nil _ _ _ _, Nat.le_refl _⟩⟩

set_option maxRecDepth 100000 in
set_option maxHeartbeats 16000000 in
theorem lam_more (l : List Pt) (af wd : Int) (A : Option Addr) (n cap : Nat) (w : World) (ht : TrOk l af wd) (hcap : n ≤ cap) (hn2 : 2 ≤ n) (hr : Rd w 3 encQ A n l) :
    Calls Try.prog 45 #[.agg #[.slice A n cap, .int .i64 af, .int .i64 wd]] w fun e w' => New w w' ∧ LamPost w' l af wd n e := by
  obtain ⟨i0, hi, hz0, hz1, hz2⟩ := info_parts infoRange
  have hL := hr.len
  have hn8 : n ≤ 8 := by have := ht.len8; omega
  obtain ⟨b, o, hA, hb, hcells⟩ := hr.some_ (by omega)
  obtain ⟨s, hs⟩ : ∃ s, l[0]? = some s := ⟨_, List.getElem?_eq_getElem (by omega)⟩
  have g1 := hcells 0 s hs 1 _ rfl
  have g2 := hcells 0 s hs 2 _ rfl
  simp only [Nat.zero_mul, Nat.add_zero] at g1 g2
  have HR := Lib.hid hr
  have HC := Lib.hid hcells
  have HT := Lib.hid ht
  have HS := Lib.hid (ptAt_of hs)
  have hsp := (ht.pt 0 (by omega)).2
  rw [ptAt_of hs] at hsp
  obtain ⟨s0, s1, s2⟩ := hsp
  have hc1 : ¬ cap = 1 := by omega
  clear hr hs hcells ht
  have b0 := (Bx.mk w 94 #[.slice A n cap, .int .i64 af, .int .i64 wd]).alloc (.cells #[.int .i64 s.lo, .int .i64 s.hi] 36)
  have b1 := Bx.mk_at (w.alloc (.cells #[.slice A n cap, .int .i64 af, .int .i64 wd] 94)) 36 #[.int .i64 s.lo, .int .i64 s.hi] (w.heap.size + 1) (by simp)
  have N0 := ((New.refl w).alloc (.cells #[.slice A n cap, .int .i64 af, .int .i64 wd] 94)).alloc (.cells #[.int .i64 s.lo, .int .i64 s.hi] 36)
  have j1 : (1 : Int) ≤ (n : Int) := by omega
  have j2 : (n : Int) ≤ (cap : Int) := by omega
  obtain ⟨m, hmn, hm1, hm2⟩ : ∃ m, n - 1 = m ∧ n ≤ m + 1 ∧ m + 1 ≤ n := ⟨n - 1, by omega, by omega, by omega⟩
  subst hA
  go_enter Try.func45, Try.ntmps45
  go_wp2
  obtain ⟨W0, hW0⟩ : ∃ W0, (w.alloc (.cells #[.slice (some ⟨b, o, none⟩) n cap, .int .i64 af, .int .i64 wd] 94)).alloc (.cells #[.int .i64 s.lo, .int .i64 s.hi] 36) = W0 := ⟨_, rfl⟩
  have hsz : W0.heap.size = w.heap.size + 2 := by rw [← hW0]; simp
  rw [hW0] at b0 b1 N0 ⊢
  have HR0 := Lib.hid (HR.out.keep N0)
  have HC0 := Lib.hid (show ∀ (i : Nat) (x : Pt), l[i]? = some x → ∀ (j : Nat) (u : Value), (encQ x)[j]? = some u → W0.cell? ⟨b, o + i * 3 + j, none⟩ = some u from fun i x hx j u hu => N0.cell (HC.out i x hx j u hu))
  clear hW0 HR HC
  go_loopw [5, 7, 8, 9, 10, 11, 12, 13, 14, 15, 16, 28] (fun v5 _ _ _ _ _ _ _ _ _ _ i wr => ∃ (k : Nat) (A' : Option Addr) (c' : Nat), k ≤ m ∧ i = .int .i64 (k : Int) ∧ v5 = .slice A' k c' ∧ Hid ((lamS l af wd k).2 = 0) ∧ Sky.Own wr (w.heap.size + 2) 36 2 encR2 A' k c' (lamS l af wd k).1 ∧ Bx wr w.heap.size 94 #[.slice (some ⟨b, o, none⟩) n cap, .int .i64 af, .int .i64 wd] ∧ Bx wr (w.heap.size + 1) 36 #[.int .i64 s.lo, .int .i64 s.hi] ∧ New W0 wr) (fun _ _ _ _ _ _ _ _ _ _ _ i _ => m - (intOf i).toNat)
  case atStart => exact ⟨0, none, 0, by omega, rfl, rfl, rfl, Own.nil _ _ _ _ encR2_len, b0, b1, New.refl _⟩
  case round =>
    clear b0 b1 g1 g2
    obtain ⟨k, A', c', hk, rfl, rfl, HZ, hown, b0, b1, hN⟩ := hrel
    by_cases hlt : k < m
    · obtain ⟨x, hx⟩ : ∃ x, l[k + 1]? = some x := ⟨_, List.getElem?_eq_getElem (by omega)⟩
      have hpt := HT.out.pt (k + 1) (by omega)
      have HPX := Lib.hid (ptAt_of hx)
      rw [ptAt_of hx] at hpt
      obtain ⟨⟨hf0, hf1⟩, ⟨x0, x1, x2⟩⟩ := hpt
      have v0 : W0.cell? ⟨b, o + 3 + k * 3, none⟩ = some (.int .i64 x.f) := by
        have h := HC0.out (k + 1) x hx 0 _ rfl
        rw [show o + (k + 1) * 3 + 0 = o + 3 + k * 3 by omega] at h
        exact h
      have v1 : W0.cell? ⟨b, o + 3 + k * 3 + 1, none⟩ = some (.int .i64 x.lo) := by
        have h := HC0.out (k + 1) x hx 1 _ rfl
        rw [show o + (k + 1) * 3 + 1 = o + 3 + k * 3 + 1 by omega] at h
        exact h
      have v2 : W0.cell? ⟨b, o + 3 + k * 3 + 2, none⟩ = some (.int .i64 x.hi) := by
        have h := HC0.out (k + 1) x hx 2 _ rfl
        rw [show o + (k + 1) * 3 + 2 = o + 3 + k * 3 + 2 by omega] at h
        exact h
      have g0 := hN.cell v0
      have g1 := hN.cell v1
      have g2 := hN.cell v2
      obtain ⟨O, hO⟩ : ∃ O, (lamS l af wd k).1 = O := ⟨_, rfl⟩
      obtain ⟨AB, hAB⟩ : ∃ AB : Nat → Int × Int, abTo l x.f O (ab0 l k) = AB := ⟨_, rfl⟩
      have HOK := Lib.hid (show SlOk O by rw [← hO]; exact lam_ok HT.out k (by omega))
      have HBD := Lib.hid (show ∀ j : Nat, j ≤ k → (AB j).1 ≤ (AB j).2 ∧ (AB j).2 ≤ 20000000 ∧ -20000000 - 60000020000 * j ≤ (AB j).1 by
        have h := ab_in HT.out HOK.out (show k + 1 < l.length by omega)
        rw [HPX.out, hAB] at h
        exact h)
      have HA0 := Lib.hid (show AB 0 = (1000 * (x.lo - s.hi), 1000 * (x.hi - s.lo)) by rw [← hAB]; show ab0 l k = _; unfold ab0; rw [HPX.out, HS.out])
      have HAS := Lib.hid (show ∀ j, AB (j + 1) = ((AB j).1 - (slAt O j).2 * (indexS (sqAt l j) x.f).2, (AB j).2 - (slAt O j).1 * (indexS (sqAt l j) x.f).1) by intro j; rw [← hAB]; rfl)
      have HSTEP := Lib.hid (lam_step HZ.out hO (by rw [HPX.out, hAB]))
      have HFk := Lib.hid ((HT.out.pt k (by omega)).1)
      obtain ⟨hp0, hp1⟩ := HT.out.sq (show k < k + 1 by omega) (show k + 1 < l.length by omega)
      rw [HPX.out] at hp1
      rw [hO] at hown
      have HOO := Lib.hid hO
      clear hx v0 v1 v2 hO hAB
      have bqx := Bx.mk wr 38 #[.int .i64 x.f, .int .i64 x.lo, .int .i64 x.hi]
      have nn := hN.alloc (.cells #[.int .i64 x.f, .int .i64 x.lo, .int .i64 x.hi] 38)
      have bq0 := b0.alloc (.cells #[.int .i64 x.f, .int .i64 x.lo, .int .i64 x.hi] 38)
      have bq1 := b1.alloc (.cells #[.int .i64 x.f, .int .i64 x.lo, .int .i64 x.hi] 38)
      have own1 := hown.alloc (.cells #[.int .i64 x.f, .int .i64 x.lo, .int .i64 x.hi] 38)
      have r0 : wr.cell? ⟨w.heap.size + 1, 0, none⟩ = some (.int .i64 s.lo) := b1.cell 0
      have r1 : wr.cell? ⟨w.heap.size + 1, 1, none⟩ = some (.int .i64 s.hi) := b1.cell 1
      have lr := b1.lt
      have lr0 : w.heap.size < wr.heap.size := by omega
      clear b0 b1 hown
      have d0 : World.cell? _ ⟨wr.heap.size, 0, none⟩ = some (.int .i64 x.f) := bqx.cell 0
      have d1 : World.cell? _ ⟨wr.heap.size, 1, none⟩ = some (.int .i64 x.lo) := bqx.cell 1
      have d2 : World.cell? _ ⟨wr.heap.size, 2, none⟩ = some (.int .i64 x.hi) := bqx.cell 2
      have e0 : World.cell? _ ⟨w.heap.size + 1, 0, none⟩ = some (.int .i64 s.lo) := bq1.cell 0
      have e1 : World.cell? _ ⟨w.heap.size + 1, 1, none⟩ = some (.int .i64 s.hi) := bq1.cell 1
      have lx := bqx.lt
      have l1 := bq1.lt
      have k0 : (0 : Int) ≤ (k : Int) := by omega
      have k1 : (k : Int) < (m : Int) := by omega
      go_wp2
      (refine wp_region_new (by kernel_rfl) (by kernel_rfl) ?_; (repeat (go_big_quiet_step ((fail)))); refine wpQuiet_nil ?_)
      intro wq nq
      have bqx := bqx.keep nq
      have bq0 := bq0.keep nq
      have bq1 := bq1.keep nq
      have ownq := own1.keep nq
      have Nq := nn.trans nq
      obtain ⟨Bp, hBp⟩ : ∃ Bp, wr.heap.size = Bp := ⟨_, rfl⟩
      have hBp2 : w.heap.size ≤ Bp := by rw [← hBp]; have := hN.size; omega
      rw [hBp] at bqx ⊢
      clear own1 nn nq d0 d1 d2 e0 e1 r0 r1 lr lr0 lx l1 g0 g1 g2 hN hBp
      go_wp2
      go_loopw [10, 11, 12, 13, 14, 51] (fun v10 v11 _ _ _ i wx => ∃ j : Nat, j ≤ k ∧ i = .int .i64 (j : Int) ∧ v10 = .int .i64 (AB j).1 ∧ v11 = .int .i64 (AB j).2 ∧ New wq wx) (fun _ _ _ _ _ i _ => k - (intOf i).toNat)
      case atStart => exact ⟨0, by omega, rfl, by rw [HA0.out], by rw [HA0.out], New.refl _⟩
      case round =>
        obtain ⟨j, hj, rfl, rfl, rfl, nj⟩ := hrel
        obtain ⟨ab1, ab2, ab3⟩ := HBD.out j hj
        by_cases hjk : j < k
        · obtain ⟨bt, ot, t, rfl, hbt, hxt, hct⟩ := (ownq.rd.keep nj).at_ hjk
          have t0 := hct 0 _ rfl
          have t1 := hct 1 _ rfl
          simp only [Nat.add_zero] at t0
          have hts : slAt O j = t := by unfold slAt; rw [hxt]; rfl
          obtain ⟨st0, st1, st2⟩ := HOK.out j
          rw [hts] at st0 st1 st2
          have HFj := Lib.hid ((HT.out.pt j (by omega)).1)
          obtain ⟨hq0, hq1⟩ := HT.out.sq (show j < k + 1 by omega) (show k + 1 < l.length by omega)
          rw [HPX.out] at hq1
          obtain ⟨I, hI⟩ : ∃ I, indexS (sqAt l j) x.f = I := ⟨_, rfl⟩
          have HI := Lib.hid hI
          have hin := index_in hf0 hf1 hq0 hq1
          have HST := Lib.hid (show AB (j + 1) = ((AB j).1 - t.2 * I.2, (AB j).2 - t.1 * I.1) by rw [HAS.out, hts, hI])
          have hbd := HBD.out (j + 1) (by omega)
          rw [HST.out] at hbd
          rw [hI] at hin
          obtain ⟨in0, in1, in2⟩ := hin
          obtain ⟨pr0, pr1, pr2⟩ := prod_in st0 st1 st2 (show 0 ≤ I.1 by omega) in1 in2
          obtain ⟨bd1, bd2, bd3⟩ := hbd
          dsimp only at bd1 bd2 bd3
          have j0 : (0 : Int) ≤ (j : Int) := by omega
          have j1' : (j : Int) < (k : Int) := by omega
          clear hxt hct hts hI
          go_upto_region 11 with fail
          obtain ⟨wy, hwy⟩ : ∃ W, wr.alloc (.cells #[.int .i64 t.1, .int .i64 t.2] 36) = W := ⟨_, rfl⟩
          have bS := Bx.mk wr 36 #[.int .i64 t.1, .int .i64 t.2]
          have ny := nj.alloc (.cells #[.int .i64 t.1, .int .i64 t.2] 36)
          rw [hwy] at bS ny ⊢
          clear hwy
          have Ny := Nq.trans ny
          have bT := bq0.keep ny
          have bP := bqx.keep ny
          have c0 : wy.cell? ⟨w.heap.size, 0, none⟩ = some (.slice (some ⟨b, o, none⟩) n cap) := bT.cell 0
          have c1 : wy.cell? ⟨w.heap.size, 1, none⟩ = some (.int .i64 af) := bT.cell 1
          have c2 : wy.cell? ⟨w.heap.size, 2, none⟩ = some (.int .i64 wd) := bT.cell 2
          have d0 : wy.cell? ⟨Bp, 0, none⟩ = some (.int .i64 x.f) := bP.cell 0
          have lT := bT.lt
          have lP := bP.lt
          have lS := bS.lt
          go_cut [14] from 56 to 61 (fun v wx => ∃ B : Nat, v = .pointer (some ⟨B, 0, none⟩) ∧ wy.heap.size ≤ B ∧ Bx wx B 36 #[.int .i64 I.1, .int .i64 I.2] ∧ New wy wx)
          case first =>
            refine wp_region_takes0 wy (New.refl _) 2 6 #[true, true, false, false, false, false, false, false] (by kernel_rfl) (by kernel_rfl) (by kernel_rfl) (by kernel_rfl) (by kernel_rfl) (by kernel_rfl) ?_
            simp only [List.take_succ_cons, List.take_zero]
            (repeat (go_big_quiet_step ((fail))))
            refine wpQuiet_nil ?_
            intro W1 n1
            refine take_next 3 2 #[true, true, false, true, true, false, false, false] rfl (by kernel_rfl) (by kernel_rfl) (by kernel_rfl) (by kernel_rfl) (by decide) ?_
            simp only [List.take_succ_cons, List.take_zero, List.drop_succ_cons, List.drop_zero]
            (repeat (go_big_quiet_step ((fail))))
            refine wpQuiet_nil ?_
            refine two_next 2 6 (by kernel_rfl) (new_plus n1) ?o1 ?o2
            case o1 =>
              refine wpOpIn_list rfl ?_
              gi_wp2_with fail
              refine ⟨trivial, callsIn_wide.2 ((square_any l af wd _ n cap j _ (by omega) HFj.out (by exact HR0.out.keep (Ny.trans (n1)))).mono ?_)⟩
              rintro e w2 ⟨rfl, n2⟩
              gi_wp2
              have n12 := n1.trans n2
              refine two_next 5 6 (by kernel_rfl) (new_plus n12) ?p1 ?p2
              case p1 =>
                refine wpOpIn_list rfl ?_
                gi_wp2_with fail
                refine ⟨trivial, callsIn_wide.2 ((pIndex_is _ _ I _ hf0 hf1 hq0 hq1 HI.out).mono ?_)⟩
                rintro e w3 ⟨rfl, n3⟩
                gi_wp2
                have n13 := n12.trans n3
                refine one_next 6 (by kernel_rfl) (new_plus n13) (wpOpIn_list rfl ?_)
                gi_wp2
                have n14 := n13.alloc (.cells #[.int .i64 0, .int .i64 0] 36)
                refine one_next 7 (by kernel_rfl) (new_plus n14) (wpOpIn_list rfl ?_)
                gi_wp2
                have nF := n13.alloc (.cells #[.int .i64 I.1, .int .i64 I.2] 36)
                have hB : wy.heap.size ≤ w3.heap.size := n13.size
                have bF := Bx.mk w3 36 #[.int .i64 I.1, .int .i64 I.2]
                refine end_any (new_plus nF) (by kernel_rfl) ?_
                go_wp2_with fail
                go_meet
                exact ⟨_, rfl, hB, bF, nF⟩
              case p2 =>
                refine wpOpIn_list rfl ?_
                gi_wp2
                have n2b := n12.alloc (.cells #[.int .i64 0, .int .i64 0] 36)
                have bb := Bx.mk w2 36 #[.int .i64 0, .int .i64 0]
                refine one_next 5 (by kernel_rfl) (new_plus n2b) (wpOpIn_list rfl ?_)
                gi_wp2_with fail
                refine ⟨trivial, callsIn_wide.2 ((pIndex_is _ _ I _ hf0 hf1 hq0 hq1 HI.out).mono ?_)⟩
                rintro e w3 ⟨rfl, n3⟩
                gi_wp2
                have bB := bb.keep n3
                have nB := n2b.trans n3
                have hB : wy.heap.size ≤ w2.heap.size := n12.size
                have k0 : w3.cell? ⟨w2.heap.size, 0, none⟩ = some (.int .i64 0) := bB.cell 0
                have k1 : w3.cell? ⟨w2.heap.size, 1, none⟩ = some (.int .i64 0) := bB.cell 1
                have k2 := bB.free 0
                have k3 := bB.free 1
                have lB := bB.lt
                have bF := (bB.set 0 (.int .i64 I.1)).set 1 (.int .i64 I.2)
                have nF := (nB.setCell (p := ⟨w2.heap.size, 0, none⟩) hB (.int .i64 I.1)).setCell (p := ⟨w2.heap.size, 1, none⟩) hB (.int .i64 I.2)
                refine one_next 7 (by kernel_rfl) (new_plus nB) (wpOpIn_list rfl ?_)
                gi_wp2
                refine end_any (new_plus nF) (by kernel_rfl) ?_
                go_wp2_with fail
                go_meet
                exact ⟨_, rfl, hB, bF, nF⟩
            case o2 =>
              refine wpOpIn_list rfl ?_
              gi_wp2
              have n1b := n1.alloc (.cells #[.int .i64 0, .int .i64 0] 36)
              have bb := Bx.mk W1 36 #[.int .i64 0, .int .i64 0]
              refine one_next 2 (by kernel_rfl) (new_plus n1b) (wpOpIn_list rfl ?_)
              gi_wp2_with fail
              refine ⟨trivial, callsIn_wide.2 ((square_any l af wd _ n cap j _ (by omega) HFj.out (by exact HR0.out.keep (Ny.trans (n1b)))).mono ?_)⟩
              rintro e w2 ⟨rfl, n2⟩
              gi_wp2
              have n12 := n1b.trans n2
              refine one_next 5 (by kernel_rfl) (new_plus n12) (wpOpIn_list rfl ?_)
              gi_wp2_with fail
              refine ⟨trivial, callsIn_wide.2 ((pIndex_is _ _ I _ hf0 hf1 hq0 hq1 HI.out).mono ?_)⟩
              rintro e w3 ⟨rfl, n3⟩
              gi_wp2
              have bB := (bb.keep n2).keep n3
              have nB := n12.trans n3
              have hB : wy.heap.size ≤ W1.heap.size := n1.size
              have k0 : w3.cell? ⟨W1.heap.size, 0, none⟩ = some (.int .i64 0) := bB.cell 0
              have k1 : w3.cell? ⟨W1.heap.size, 1, none⟩ = some (.int .i64 0) := bB.cell 1
              have k2 := bB.free 0
              have k3 := bB.free 1
              have lB := bB.lt
              have bF := (bB.set 0 (.int .i64 I.1)).set 1 (.int .i64 I.2)
              have nF := (nB.setCell (p := ⟨W1.heap.size, 0, none⟩) hB (.int .i64 I.1)).setCell (p := ⟨W1.heap.size, 1, none⟩) hB (.int .i64 I.2)
              refine one_next 7 (by kernel_rfl) (new_plus nB) (wpOpIn_list rfl ?_)
              gi_wp2
              refine end_any (new_plus nF) (by kernel_rfl) ?_
              go_wp2_with fail
              go_meet
              exact ⟨_, rfl, hB, bF, nF⟩
          case rest =>
            obtain ⟨B, rfl, _, bI, nI⟩ := hcut
            have bS' := bS.keep nI
            have y0 : wc.cell? ⟨B, 0, none⟩ = some (.int .i64 I.1) := bI.cell 0
            have y1 : wc.cell? ⟨B, 1, none⟩ = some (.int .i64 I.2) := bI.cell 1
            have z0 : wc.cell? ⟨wr.heap.size, 0, none⟩ = some (.int .i64 t.1) := bS'.cell 0
            have z1 : wc.cell? ⟨wr.heap.size, 1, none⟩ = some (.int .i64 t.2) := bS'.cell 1
            have lB := bI.lt
            have lS' := bS'.lt
            have nc := ny.trans nI
            clear c0 c1 c2 d0 lT lP lS bT bP Ny ny nI bS bI bS' t0 t1
            go_wp2
            (refine wp_region_new (by kernel_rfl) (by kernel_rfl) ?_; (repeat (go_big_quiet_step ((fail)))); refine wpQuiet_nil ?_)
            intro wz nz
            go_wp2
            go_roundw
            case rel => exact ⟨j + 1, by omega, by go_num, by rw [HST.out], by rw [HST.out], nc.trans nz⟩
            case measure => simp [intOf]; omega
        · obtain rfl : k = j := by omega
          have bT := bq0.keep nj
          have bP := bqx.keep nj
          have ownv := ownq.keep nj
          have bS1 := bq1.keep nj
          have Nv := Nq.trans nj
          clear bq0 bqx ownq bq1 nj Nq
          obtain ⟨V, hV⟩ : ∃ V, valS af wd (k + 1) = V := ⟨_, rfl⟩
          obtain ⟨a2, ha2⟩ : ∃ a2, aS l af wd k (AB k).1 = a2 := ⟨_, rfl⟩
          have HV := Lib.hid hV
          have hv := val_in HT.out (k + 1)
          have hin2 := aS_in HT.out (show k + 1 < l.length by omega) (AB k).1
          have HVI := Lib.hid (fun h => vi_in HT.out (show k + 1 < l.length by omega) h)
          have HAF := Lib.hid (fun (h : 0 < valS af wd (k + 1)) => val_after h)
          have HA2 := Lib.hid (show a2 = if 0 < V then (AB k).1 - V * (indexS (sqAt l af.toNat) x.f).2 else (AB k).1 by rw [← ha2]; unfold aS; rw [hV, HPX.out])
          rw [hV] at hv HVI HAF
          rw [HPX.out] at HVI
          rw [ha2] at hin2 HSTEP
          obtain ⟨hv0, hv1⟩ := hv
          obtain ⟨ha20, ha21⟩ := hin2
          clear hV ha2
          have c0 : wr.cell? ⟨w.heap.size, 0, none⟩ = some (.slice (some ⟨b, o, none⟩) n cap) := bT.cell 0
          have c1 : wr.cell? ⟨w.heap.size, 1, none⟩ = some (.int .i64 af) := bT.cell 1
          have c2 : wr.cell? ⟨w.heap.size, 2, none⟩ = some (.int .i64 wd) := bT.cell 2
          have lT := bT.lt
          go_wp2_with fail
          refine (valley_is af wd _ n cap (k + 1) _ V _ (by omega) (by omega) HV.out).mono ?_
          rintro e ww ⟨rfl, nw⟩
          have bTw := bT.keep nw
          have bPw := bP.keep nw
          have ownw := ownv.keep nw
          have bS1w := bS1.keep nw
          have Nw := Nv.trans nw
          clear c0 c1 c2 lT bT bP ownv bS1 Nv nw
          go_upto_if 81 with (fail)
          go_cut [10] from 82 to 94 (fun v10 wx => v10 = .int .i64 a2 ∧ New ww wx)
          case first =>
            by_cases hpos : 0 < V
            · have haf := HAF.out hpos
              obtain ⟨hvi0, hvi1⟩ := HVI.out hpos
              obtain ⟨af0, af1⟩ := HT.out.af
              have HFa := Lib.hid ((HT.out.pt af.toNat (by omega)).1)
              obtain ⟨hr0, hr1⟩ := HT.out.sq (show af.toNat < k + 1 by omega) (show k + 1 < l.length by omega)
              rw [HPX.out] at hr1
              obtain ⟨SQ, hSQ⟩ : ∃ SQ, sqAt l af.toNat = SQ := ⟨_, rfl⟩
              have HSQ := Lib.hid hSQ
              rw [hSQ] at hr0 hr1 hvi0 hvi1 HA2
              obtain ⟨J, hJ⟩ : ∃ J, indexS SQ x.f = J := ⟨_, rfl⟩
              have HJ := Lib.hid hJ
              rw [hJ] at hvi0 hvi1 HA2
              have HA3 := Lib.hid (HA2.out.trans (if_pos hpos))
              clear hSQ hJ
              have c0 : ww.cell? ⟨w.heap.size, 0, none⟩ = some (.slice (some ⟨b, o, none⟩) n cap) := bTw.cell 0
              have c1 : ww.cell? ⟨w.heap.size, 1, none⟩ = some (.int .i64 af) := bTw.cell 1
              have c2 : ww.cell? ⟨w.heap.size, 2, none⟩ = some (.int .i64 wd) := bTw.cell 2
              have d0 : ww.cell? ⟨Bp, 0, none⟩ = some (.int .i64 x.f) := bPw.cell 0
              have lT := bTw.lt
              have lP := bPw.lt
              have af2 : af.toNat < n := by omega
              have af3 : af = ((af.toNat : Nat) : Int) := by omega
              have HAF3 := Lib.hid af3
              have hfd := field_hi J.1 J.2
              clear af3
              go_wp2
              (refine wp_region_new (by kernel_rfl) (by kernel_rfl) ?_; (repeat (go_big_quiet_step ((first | (go_at_call 99; exact quiet_new (square_is l af wd _ n cap af.toNat _ SQ _ HAF3.out af2 HFa.out HSQ.out (by exact HR0.out.keep (Nw.trans (plus_new _ _))))) | (go_at_call 98; exact quiet_new (pIndex_is _ _ J _ hf0 hf1 hr0 hr1 HJ.out)))))); refine wpQuiet_nil ?_)
              intro wz nz
              go_wp2_with fail
              go_meet
              exact ⟨by rw [HA3.out], nz⟩
            · have HA3 := Lib.hid (HA2.out.trans (if_neg hpos))
              have hV0 : V ≤ 0 := by omega
              go_wp2_with fail
              go_meet
              exact ⟨by rw [HA3.out], New.refl _⟩
          case rest =>
          obtain ⟨rfl, nv⟩ := hcut
          generalize wc = wv at *
          have bT := bTw.keep nv
          have bP := bPw.keep nv
          have ownv := ownw.keep nv
          have bS1 := bS1w.keep nv
          have Nv := Nw.trans nv
          clear bTw bPw ownw bS1w Nw nv HA2 HAF HVI
          by_cases hneg : (AB k).2 < 0
          · have HE := Lib.hid (show lamS l af wd m = ([], k + 1) by
              have h := HSTEP.out
              rw [if_pos hneg] at h
              rw [lam_stop (k := k + 1) (by rw [h]; simp) m (by omega), h])
            go_wp2_with fail
            go_ret3
            refine ⟨N0.trans Nv, .inr ?_⟩
            rw [hmn, HE.out]
            exact ⟨by simp, rfl⟩
          have HSTEP2 := Lib.hid (HSTEP.out.trans (if_neg hneg))
          obtain ⟨OI, hOI⟩ : ∃ I, indexS (sqAt l k) x.f = I := ⟨_, rfl⟩
          have HOI := Lib.hid hOI
          have hino := index_in hf0 hf1 hp0 hp1
          rw [hOI] at hino
          obtain ⟨io0, io1, io2⟩ := hino
          have HSL := Lib.hid (show slabS l k a2 (AB k).2 = (max 0 (a2 / OI.2), -((-(AB k).2) / OI.1)) by unfold slabS; rw [HPX.out, hOI])
          clear hOI
          go_upto_region 19 with fail
          have c0 : wv.cell? ⟨w.heap.size, 0, none⟩ = some (.slice (some ⟨b, o, none⟩) n cap) := bT.cell 0
          have c1 : wv.cell? ⟨w.heap.size, 1, none⟩ = some (.int .i64 af) := bT.cell 1
          have c2 : wv.cell? ⟨w.heap.size, 2, none⟩ = some (.int .i64 wd) := bT.cell 2
          have d0 : wv.cell? ⟨Bp, 0, none⟩ = some (.int .i64 x.f) := bP.cell 0
          have lT := bT.lt
          have lP := bP.lt
          go_cut [16] from 98 to 103 (fun v wx => ∃ B : Nat, v = .pointer (some ⟨B, 0, none⟩) ∧ wv.heap.size ≤ B ∧ Bx wx B 36 #[.int .i64 OI.1, .int .i64 OI.2] ∧ New wv wx)
          case first =>
            refine wp_region_takes0 wv (New.refl _) 2 6 #[true, true, false, false, false, false, false, false] (by kernel_rfl) (by kernel_rfl) (by kernel_rfl) (by kernel_rfl) (by kernel_rfl) (by kernel_rfl) ?_
            simp only [List.take_succ_cons, List.take_zero]
            (repeat (go_big_quiet_step ((fail))))
            refine wpQuiet_nil ?_
            intro W1 n1
            refine take_next 3 2 #[true, true, false, true, true, false, false, false] rfl (by kernel_rfl) (by kernel_rfl) (by kernel_rfl) (by kernel_rfl) (by decide) ?_
            simp only [List.take_succ_cons, List.take_zero, List.drop_succ_cons, List.drop_zero]
            (repeat (go_big_quiet_step ((fail))))
            refine wpQuiet_nil ?_
            refine two_next 2 6 (by kernel_rfl) (new_plus n1) ?o1 ?o2
            case o1 =>
              refine wpOpIn_list rfl ?_
              gi_wp2_with fail
              refine ⟨trivial, callsIn_wide.2 ((square_any l af wd _ n cap k _ (by omega) HFk.out (by exact HR0.out.keep (Nv.trans (n1)))).mono ?_)⟩
              rintro e w2 ⟨rfl, n2⟩
              gi_wp2
              have n12 := n1.trans n2
              refine two_next 5 6 (by kernel_rfl) (new_plus n12) ?p1 ?p2
              case p1 =>
                refine wpOpIn_list rfl ?_
                gi_wp2_with fail
                refine ⟨trivial, callsIn_wide.2 ((pIndex_is _ _ OI _ hf0 hf1 hp0 hp1 HOI.out).mono ?_)⟩
                rintro e w3 ⟨rfl, n3⟩
                gi_wp2
                have n13 := n12.trans n3
                refine one_next 6 (by kernel_rfl) (new_plus n13) (wpOpIn_list rfl ?_)
                gi_wp2
                have n14 := n13.alloc (.cells #[.int .i64 0, .int .i64 0] 36)
                refine one_next 7 (by kernel_rfl) (new_plus n14) (wpOpIn_list rfl ?_)
                gi_wp2
                have nF := n13.alloc (.cells #[.int .i64 OI.1, .int .i64 OI.2] 36)
                have hB : wv.heap.size ≤ w3.heap.size := n13.size
                have bF := Bx.mk w3 36 #[.int .i64 OI.1, .int .i64 OI.2]
                refine end_any (new_plus nF) (by kernel_rfl) ?_
                go_wp2_with fail
                go_meet
                exact ⟨_, rfl, hB, bF, nF⟩
              case p2 =>
                refine wpOpIn_list rfl ?_
                gi_wp2
                have n2b := n12.alloc (.cells #[.int .i64 0, .int .i64 0] 36)
                have bb := Bx.mk w2 36 #[.int .i64 0, .int .i64 0]
                refine one_next 5 (by kernel_rfl) (new_plus n2b) (wpOpIn_list rfl ?_)
                gi_wp2_with fail
                refine ⟨trivial, callsIn_wide.2 ((pIndex_is _ _ OI _ hf0 hf1 hp0 hp1 HOI.out).mono ?_)⟩
                rintro e w3 ⟨rfl, n3⟩
                gi_wp2
                have bB := bb.keep n3
                have nB := n2b.trans n3
                have hB : wv.heap.size ≤ w2.heap.size := n12.size
                have k0 : w3.cell? ⟨w2.heap.size, 0, none⟩ = some (.int .i64 0) := bB.cell 0
                have k1 : w3.cell? ⟨w2.heap.size, 1, none⟩ = some (.int .i64 0) := bB.cell 1
                have k2 := bB.free 0
                have k3 := bB.free 1
                have lB := bB.lt
                have bF := (bB.set 0 (.int .i64 OI.1)).set 1 (.int .i64 OI.2)
                have nF := (nB.setCell (p := ⟨w2.heap.size, 0, none⟩) hB (.int .i64 OI.1)).setCell (p := ⟨w2.heap.size, 1, none⟩) hB (.int .i64 OI.2)
                refine one_next 7 (by kernel_rfl) (new_plus nB) (wpOpIn_list rfl ?_)
                gi_wp2
                refine end_any (new_plus nF) (by kernel_rfl) ?_
                go_wp2_with fail
                go_meet
                exact ⟨_, rfl, hB, bF, nF⟩
            case o2 =>
              refine wpOpIn_list rfl ?_
              gi_wp2
              have n1b := n1.alloc (.cells #[.int .i64 0, .int .i64 0] 36)
              have bb := Bx.mk W1 36 #[.int .i64 0, .int .i64 0]
              refine one_next 2 (by kernel_rfl) (new_plus n1b) (wpOpIn_list rfl ?_)
              gi_wp2_with fail
              refine ⟨trivial, callsIn_wide.2 ((square_any l af wd _ n cap k _ (by omega) HFk.out (by exact HR0.out.keep (Nv.trans (n1b)))).mono ?_)⟩
              rintro e w2 ⟨rfl, n2⟩
              gi_wp2
              have n12 := n1b.trans n2
              refine one_next 5 (by kernel_rfl) (new_plus n12) (wpOpIn_list rfl ?_)
              gi_wp2_with fail
              refine ⟨trivial, callsIn_wide.2 ((pIndex_is _ _ OI _ hf0 hf1 hp0 hp1 HOI.out).mono ?_)⟩
              rintro e w3 ⟨rfl, n3⟩
              gi_wp2
              have bB := (bb.keep n2).keep n3
              have nB := n12.trans n3
              have hB : wv.heap.size ≤ W1.heap.size := n1.size
              have k0 : w3.cell? ⟨W1.heap.size, 0, none⟩ = some (.int .i64 0) := bB.cell 0
              have k1 : w3.cell? ⟨W1.heap.size, 1, none⟩ = some (.int .i64 0) := bB.cell 1
              have k2 := bB.free 0
              have k3 := bB.free 1
              have lB := bB.lt
              have bF := (bB.set 0 (.int .i64 OI.1)).set 1 (.int .i64 OI.2)
              have nF := (nB.setCell (p := ⟨W1.heap.size, 0, none⟩) hB (.int .i64 OI.1)).setCell (p := ⟨W1.heap.size, 1, none⟩) hB (.int .i64 OI.2)
              refine one_next 7 (by kernel_rfl) (new_plus nB) (wpOpIn_list rfl ?_)
              gi_wp2
              refine end_any (new_plus nF) (by kernel_rfl) ?_
              go_wp2_with fail
              go_meet
              exact ⟨_, rfl, hB, bF, nF⟩
          case rest =>
          obtain ⟨B, rfl, hBv, bI, nI⟩ := hcut
          generalize wc = wu at *
          obtain ⟨r, hBr, hrow⟩ : ∃ r, B ≠ r ∧ (A'.map (·.block) = none ∨ A'.map (·.block) = some r) := by
            rcases ownv.form with ⟨h, _⟩ | ⟨g, h, _, hg, _⟩
            · exact ⟨B + 1, by omega, .inl (by rw [h]; rfl)⟩
            · exact ⟨g, by omega, .inr (by rw [h]; rfl)⟩
          have bTu := bT.keep nI
          have ownu := ownv.keep nI
          have bS1u := bS1.keep nI
          have Nu := Nv.trans nI
          have y0 : wu.cell? ⟨B, 0, none⟩ = some (.int .i64 OI.1) := bI.cell 0
          have y1 : wu.cell? ⟨B, 1, none⟩ = some (.int .i64 OI.2) := bI.cell 1
          have lB := bI.lt
          clear c0 c1 c2 d0 lT lP bT bP ownv bS1 Nv nI bI
          have hbn : 0 ≤ (AB k).2 := by omega
          have hsl := slab_in HT.out (show k + 1 < l.length by omega) (show a2 ≤ (AB k).2 by omega) ab2 hbn
          rw [HSL.out] at hsl
          obtain ⟨qa, hqa⟩ : ∃ q, a2 / OI.2 = q := ⟨_, rfl⟩
          obtain ⟨C, hC⟩ : ∃ q, -((-(AB k).2) / OI.1) = q := ⟨_, rfl⟩
          have HQA := Lib.hid hqa
          have HCC := Lib.hid hC
          rw [hqa, hC] at hsl HSL
          obtain ⟨sl0, sl1, sl2⟩ := hsl
          dsimp only at sl0 sl1 sl2
          clear hneg hqa hC
          go_wp2
          refine wp_region_takesR r 4 10 #[true, true, true, true, false, false, false, false, false, false, false, false, false, false] (by kernel_rfl) (by kernel_rfl) (by kernel_rfl) (by kernel_rfl) (by kernel_rfl) (by kernel_rfl) ?_
          simp only [List.take_succ_cons, List.take_zero]
          (repeat (go_big_quiet_step ((fail))))
          refine wpQuiet_nil ?_
          intro W1 n1
          have n01 := Nu.trans n1
          refine take_next 6 3 #[true, true, true, true, false, false, true, true, true, false, false, false, false, false] rfl (by kernel_rfl) (by kernel_rfl) (by kernel_rfl) (by kernel_rfl) (by decide) ?_
          simp only [List.take_succ_cons, List.take_zero, List.drop_succ_cons, List.drop_zero]
          (repeat (go_big_quiet_step ((fail))))
          refine wpQuiet_nil ?_
          refine one_next 4 (by kernel_rfl) (new_plusR r n1) (wpOpIn_list rfl ?_)
          gi_wp2_with fail
          refine ⟨trivial, callsIn_wide.2 ((pFloor_is _ _ qa _ (by omega) (by omega) (by omega) (by omega) HQA.out).mono ?_)⟩
          rintro e w' ⟨rfl, rfl⟩
          gi_wp2
          rcases (show qa ≤ 0 ∨ 0 < qa by omega) with hq | hq
          · have HM := Lib.hid (show max 0 qa = 0 by omega)
            refine two_next 5 9 (by kernel_rfl) (new_plusR r n1) ?f1 ?f2
            case' f1 =>
              refine wpOpIn_list rfl ?_
              gi_wp2
              refine one_next 9 (by kernel_rfl) (new_plusR r n1) (wpOpIn_list rfl ?_)
              gi_wp2_with fail
              refine ⟨trivial, callsIn_wide.2 ((pCeil_is _ _ C _ (by omega) (by omega) (by omega) (by omega) HCC.out).mono ?_)⟩
              rintro e w' ⟨rfl, rfl⟩
              gi_wp2
            case' f2 =>
              refine wpOpIn_list rfl ?_
              gi_wp2_with fail
              refine ⟨trivial, callsIn_wide.2 ((pCeil_is _ _ C _ (by omega) (by omega) (by omega) (by omega) HCC.out).mono ?_)⟩
              rintro e w' ⟨rfl, rfl⟩
              gi_wp2
              refine one_next 5 (by kernel_rfl) (new_plusR r n1) (wpOpIn_list rfl ?_)
              gi_wp2
            all_goals
              refine one_next 10 (by kernel_rfl) (new_plusR r n1) (wpOpIn_list rfl ?_)
              gi_wp2
              refine one_next 11 (by kernel_rfl) (new_plusR r n1) (wpOpIn_list rfl ?_)
              gi_wp2
              have nB := n01.alloc (.cells #[.int .i64 0, .int .i64 C] 36)
              have nC := n1.alloc (.cells #[.int .i64 0, .int .i64 C] 36)
              have oB := (ownu.keep n1).alloc (.cells #[.int .i64 0, .int .i64 C] 36)
              have bB := Bx.mk W1 36 #[.int .i64 0, .int .i64 C]
              have hbs : w.heap.size + 2 ≤ W1.heap.size := by have := bS1u.lt; have := n1.size; omega
              refine one_next 12 (by kernel_rfl) (new_plusR r nC) (wpOpIn_list rfl ?_)
              refine wpListIn_flow _ rfl _ _ 29 rfl 36 i0 _ 2 16 Try.underlying29 hi hz0 hz1 hz2 rfl (by omega) (w.heap.size + 2) encR2 A' k c' O rfl (by exact oB) (some ⟨W1.heap.size, 0, none⟩) 1 1 [(0, C)] rfl (by exact rd_bx bB encR2_len [(0, C)] rfl 1 rfl) encR2_one (by unfold maxLen; omega) (by omega) (by simp; omega) ?_
              intro A7 c7 w7 own7 hg7 hN7
              gi_wp2
              have n7 := hN7 W0 nB (by omega)
              have gr7 := grown_plusR (World.grownBy.trans (grown_new (some r) nC) (grown_any hg7 hrow))
              refine one_next 13 (by kernel_rfl) gr7 (wpOpIn_list rfl ?_)
              gi_wp2
              have hne : ∀ bb : Nat, bb < w.heap.size + 2 → some bb ≠ A'.map (·.block) := fun bb hbb h => by
                have := oB.row_ge bb h.symm
                omega
              have bT7 := ((bTu.keep n1).alloc (.cells #[.int .i64 0, .int .i64 C] 36)).grown hg7 (hne _ (by omega))
              have bS7 := ((bS1u.keep n1).alloc (.cells #[.int .i64 0, .int .i64 C] 36)).grown hg7 (hne _ (by omega))
              have N7 := n7
              have HL7 := Lib.hid (show (lamS l af wd (k + 1)).1 = O ++ [(0, C)] ∧ (lamS l af wd (k + 1)).2 = 0 by rw [HSTEP2.out, HSL.out, HM.out]; exact ⟨rfl, rfl⟩)
              refine end_any gr7 (by kernel_rfl) ?_
              clear hg7 hN7 oB nB bB hne n1 n01 n7 gr7 nC
              go_wp2_with fail
              go_roundw
              case rel => exact ⟨k + 1, A7, c7, by omega, by go_num, rfl, HL7.out.2, by rw [HL7.out.1]; exact own7, bT7, bS7, N7⟩
              case measure => simp [intOf]; omega
          · have HM := Lib.hid (show max 0 qa = qa by omega)
            refine two_next 5 9 (by kernel_rfl) (new_plusR r n1) ?g1 ?g2
            case' g1 =>
              refine wpOpIn_list rfl ?_
              gi_wp2
              refine one_next 9 (by kernel_rfl) (new_plusR r n1) (wpOpIn_list rfl ?_)
              gi_wp2_with fail
              refine ⟨trivial, callsIn_wide.2 ((pCeil_is _ _ C _ (by omega) (by omega) (by omega) (by omega) HCC.out).mono ?_)⟩
              rintro e w' ⟨rfl, rfl⟩
              gi_wp2
            case' g2 =>
              refine wpOpIn_list rfl ?_
              gi_wp2_with fail
              refine ⟨trivial, callsIn_wide.2 ((pCeil_is _ _ C _ (by omega) (by omega) (by omega) (by omega) HCC.out).mono ?_)⟩
              rintro e w' ⟨rfl, rfl⟩
              gi_wp2
              refine one_next 5 (by kernel_rfl) (new_plusR r n1) (wpOpIn_list rfl ?_)
              gi_wp2
            all_goals
              refine one_next 10 (by kernel_rfl) (new_plusR r n1) (wpOpIn_list rfl ?_)
              gi_wp2
              refine one_next 11 (by kernel_rfl) (new_plusR r n1) (wpOpIn_list rfl ?_)
              gi_wp2
              have nB := n01.alloc (.cells #[.int .i64 qa, .int .i64 C] 36)
              have nC := n1.alloc (.cells #[.int .i64 qa, .int .i64 C] 36)
              have oB := (ownu.keep n1).alloc (.cells #[.int .i64 qa, .int .i64 C] 36)
              have bB := Bx.mk W1 36 #[.int .i64 qa, .int .i64 C]
              have hbs : w.heap.size + 2 ≤ W1.heap.size := by have := bS1u.lt; have := n1.size; omega
              refine one_next 12 (by kernel_rfl) (new_plusR r nC) (wpOpIn_list rfl ?_)
              refine wpListIn_flow _ rfl _ _ 29 rfl 36 i0 _ 2 16 Try.underlying29 hi hz0 hz1 hz2 rfl (by omega) (w.heap.size + 2) encR2 A' k c' O rfl (by exact oB) (some ⟨W1.heap.size, 0, none⟩) 1 1 [(qa, C)] rfl (by exact rd_bx bB encR2_len [(qa, C)] rfl 1 rfl) encR2_one (by unfold maxLen; omega) (by omega) (by simp; omega) ?_
              intro A7 c7 w7 own7 hg7 hN7
              gi_wp2
              have n7 := hN7 W0 nB (by omega)
              have gr7 := grown_plusR (World.grownBy.trans (grown_new (some r) nC) (grown_any hg7 hrow))
              refine one_next 13 (by kernel_rfl) gr7 (wpOpIn_list rfl ?_)
              gi_wp2
              have hne : ∀ bb : Nat, bb < w.heap.size + 2 → some bb ≠ A'.map (·.block) := fun bb hbb h => by
                have := oB.row_ge bb h.symm
                omega
              have bT7 := ((bTu.keep n1).alloc (.cells #[.int .i64 qa, .int .i64 C] 36)).grown hg7 (hne _ (by omega))
              have bS7 := ((bS1u.keep n1).alloc (.cells #[.int .i64 qa, .int .i64 C] 36)).grown hg7 (hne _ (by omega))
              have N7 := n7
              have HL7 := Lib.hid (show (lamS l af wd (k + 1)).1 = O ++ [(qa, C)] ∧ (lamS l af wd (k + 1)).2 = 0 by rw [HSTEP2.out, HSL.out, HM.out]; exact ⟨rfl, rfl⟩)
              refine end_any gr7 (by kernel_rfl) ?_
              clear hg7 hN7 oB nB bB hne n1 n01 n7 gr7 nC
              go_wp2_with fail
              go_roundw
              case rel => exact ⟨k + 1, A7, c7, by omega, by go_num, rfl, HL7.out.2, by rw [HL7.out.1]; exact own7, bT7, bS7, N7⟩
              case measure => simp [intOf]; omega
    · obtain rfl : k = m := by omega
      go_wp2_with fail
      go_ret3
      exact ⟨N0.trans hN, .inl ⟨A', c', by rw [hmn]; exact HZ.out, by rw [hmn]; rfl, by rw [hmn]; exact hown.rd, by rw [hmn]; exact hown.le.1⟩⟩

theorem laminated_any (l : List Pt) (af wd : Int) (A : Option Addr) (n cap : Nat) (w : World) (ht : TrOk l af wd) (hcap : n ≤ cap) (hr : Rd w 3 encQ A n l) :
    Calls Try.prog 45 #[.agg #[.slice A n cap, .int .i64 af, .int .i64 wd]] w fun e w' => New w w' ∧ LamPost w' l af wd n e := by
  by_cases h : n = 1
  · subst h
    exact lam_one l af wd A cap w ht hcap hr
  · exact lam_more l af wd A n cap w ht hcap (by have := ht.len0; have := hr.len; omega) hr
end Go.Proofs.Yteabmmibmopnkaa

namespace Go.Proofs.Yteabmmibmopnkaa
open Go.RowKit Go.Sky

def LamRes (w' : World) (l : List Pt) (af wd : Int) (n : Nat) (e : Ending) : Prop :=
  (∃ A' c', (lamS l af wd (n - 1)).2 = 0 ∧ e = .returned (.tuple #[.slice A' (n - 1) c', .int .i64 0, .int .i64 0]) ∧ Sky.Rd w' 2 encR2 A' (n - 1) (lamS l af wd (n - 1)).1 ∧ n - 1 ≤ c') ∨
  ((lamS l af wd (n - 1)).2 ≠ 0 ∧ e = .returned (.tuple #[.slice none 0 0, .int .i64 (((lamS l af wd (n - 1)).2 : Nat) : Int), .int .i64 13]))

set_option maxRecDepth 100000 in
set_option maxHeartbeats 2000000 in
theorem Laminated_any (l : List Pt) (af wd : Int) (A : Option Addr) (n cap : Nat) (w : World) (ht : TrOk l af wd) (hcap : n ≤ cap) (hr : Rd w 3 encQ A n l) :
    Calls Try.prog 13 #[.agg #[.slice A n cap, .int .i64 af, .int .i64 wd]] w fun e w' => New w w' ∧ LamRes w' l af wd n e := by
  have HR := Lib.hid hr; clear hr
  have HT := Lib.hid ht; clear ht
  have HCAP := Lib.hid hcap; clear hcap
  have N0 := (New.refl w).alloc (.cells #[.slice A n cap, .int .i64 af, .int .i64 wd] 24)
  go_enter Try.func13, Try.ntmps13
  go_wp2_with fail
  refine (openTrace_ok l af wd A n cap _ HT.out (HR.out.keep N0)).mono ?_
  rintro e w1 ⟨rfl, n1⟩
  have N1 := N0.trans n1
  clear N0 n1
  go_wp2_with fail
  refine (laminated_any l af wd A n cap _ HT.out HCAP.out (HR.out.keep (N1.alloc _))).mono ?_
  rintro e w2 ⟨n2, ⟨A', c', h0, rfl, hrd, hle⟩ | ⟨h0, rfl⟩⟩
  · have HRD := Lib.hid hrd
    have H0 := Lib.hid h0
    have HLE := Lib.hid hle
    have N2 := (N1.alloc _).trans n2
    clear hrd h0 hle n2
    go_wp2_with fail
    refine (pUnless_any true 13 _).mono ?_
    rintro e w' ⟨rfl, rfl⟩
    go_wp2_with fail
    go_ret3
    exact ⟨N2, .inl ⟨A', c', H0.out, rfl, HRD.out, HLE.out⟩⟩
  · have H0 := Lib.hid h0
    have N2 := (N1.alloc _).trans n2
    clear h0 n2
    go_wp2_with fail
    refine (pUnless_any false 13 _).mono ?_
    rintro e w' ⟨rfl, rfl⟩
    go_wp2_with fail
    go_ret3
    exact ⟨N2, .inr ⟨H0.out, rfl⟩⟩

theorem own_fresh {α : Type} (w : World) (base e k : Nat) {enc : α → List Value} (hk : ∀ x, (enc x).length = k) (cs : Array Value) (xs : List α) (n B : Nat) (hB : B = w.heap.size) (hb : base ≤ B) (hx : xs.flatMap enc = cs.toList) (hn : xs.length = n) (hm : n ≤ maxLen) :
    Sky.Own (w.alloc (.cells cs e)) base e k enc (some ⟨B, 0, none⟩) n n xs := by
  subst hB
  have hs : cs.size = n * k := by rw [← Array.length_toList, ← hx, flat_len hk, hn]
  refine ⟨hn, hk, by rw [flat_len hk, hn], .inr ⟨w.heap.size, n, cs, rfl, hb, heap_alloc_new w _, Nat.le_refl _, hm, hs, ?_⟩⟩
  rw [List.take_of_length_le (by rw [Array.length_toList, hs]; exact Nat.le_refl _), hx]

set_option maxRecDepth 100000 in
set_option maxHeartbeats 8000000 in
theorem HeightsOf_ok (l : List Pt) (af wd : Int) (A : Option Addr) (n cap : Nat) (w : World) (ht : TrOk l af wd) (hcap : n ≤ cap) (hr : Rd w 3 encQ A n l) (hz : (lamS l af wd (n - 1)).2 = 0) :
    Calls Try.prog 16 #[.agg #[.slice A n cap, .int .i64 af, .int .i64 wd]] w fun e w' => New w w' ∧ ∃ A' c', e = .returned (.tuple #[.slice A' n c', .int .i64 0]) ∧ Sky.Rd w' 2 encR2 A' n (htsS l af wd (lamS l af wd (n - 1)).1 n) ∧ n ≤ c' := by
  obtain ⟨i0, hi, hz0, hz1, hz2⟩ := info_parts infoRange
  have hL := hr.len
  have hn0 : 0 < n := by have := ht.len0; omega
  have hn8 : n ≤ 8 := by have := ht.len8; omega
  obtain ⟨b, o, s, rfl, hb, hs, hcells⟩ := hr.at_ hn0
  have g1 := hcells 1 _ rfl
  have g2 := hcells 2 _ rfl
  simp only [Nat.zero_mul, Nat.add_zero] at g1 g2
  have HR := Lib.hid hr; clear hr
  have HT := Lib.hid ht; clear ht
  have HCAP := Lib.hid hcap; clear hcap
  have HZ := Lib.hid hz; clear hz
  have HS := Lib.hid (ptAt_of hs)
  clear hs hcells
  have hw := HT.out.wd
  have N0 := (New.refl w).alloc (.cells #[.slice (some ⟨b, o, none⟩) n cap, .int .i64 af, .int .i64 wd] 24)
  have b0 := Bx.mk w 24 #[.slice (some ⟨b, o, none⟩) n cap, .int .i64 af, .int .i64 wd]
  obtain ⟨O, hO⟩ : ∃ O, (lamS l af wd (n - 1)).1 = O := ⟨_, rfl⟩
  have HOK := Lib.hid (show SlOk O by rw [← hO]; exact lam_ok HT.out (n - 1) (by omega))
  have HO := Lib.hid hO
  rw [hO]
  clear hO
  go_enter Try.func16, Try.ntmps16
  go_wp2_with fail
  refine (openTrace_ok l af wd _ n cap _ HT.out (HR.out.keep N0)).mono ?_
  rintro e w1 ⟨rfl, n1⟩
  have N1 := (N0.trans n1).alloc (.cells #[.slice (some ⟨b, o, none⟩) n cap, .int .i64 af, .int .i64 wd] 94)
  have b1 := (b0.keep n1).alloc (.cells #[.slice (some ⟨b, o, none⟩) n cap, .int .i64 af, .int .i64 wd] 94)
  have t1 := Bx.mk w1 94 #[.slice (some ⟨b, o, none⟩) n cap, .int .i64 af, .int .i64 wd]
  clear N0 b0 n1
  go_wp2_with fail
  refine (laminated_any l af wd _ n cap _ HT.out HCAP.out (HR.out.keep N1)).mono ?_
  rintro e w2 ⟨n2, ⟨A', c', h0, rfl, hrd, hle⟩ | ⟨h0, rfl⟩⟩
  · rw [HO.out] at hrd
    have HRD := Lib.hid hrd
    have N2 := N1.trans n2
    have b2 := b1.keep n2
    have t2 := t1.keep n2
    clear hrd h0 n2 N1 b1 t1
    obtain ⟨Bt, hBt⟩ : ∃ Bt, w1.heap.size = Bt := ⟨_, rfl⟩
    rw [hBt] at t2 ⊢
    clear hBt
    obtain ⟨m, hmn, hm1, hm2⟩ : ∃ m, n - 1 = m ∧ n ≤ m + 1 ∧ m + 1 ≤ n := ⟨n - 1, rfl, by omega, by omega⟩
    rw [hmn] at HRD
    have q0 : w2.cell? ⟨w.heap.size, 0, none⟩ = some (.slice (some ⟨b, o, none⟩) n cap) := b2.cell 0
    have lq := b2.lt
    have u1 := N2.cell g1
    have u2 := N2.cell g2
    have hb2 : b < w2.heap.size := Nat.lt_of_lt_of_le hb N2.size
    rw [hmn]
    go_wp2_with fail
    have hv0 : valS af wd 0 = 0 := by
      have := HT.out.af
      unfold valS
      rw [if_neg (by omega)]
    have hh1 : htsS l af wd O 1 = [(s.lo, s.hi)] := by
      show [htS l af wd O 0] = _
      unfold htS sumH
      rw [hv0, HS.out]
      simp
    have bs := (Bx.mk w2 36 #[.int .i64 s.lo, .int .i64 s.hi]).alloc (.cells #[.int .i64 s.lo, .int .i64 s.hi] 36)
    have own0 := own_fresh (w2.alloc (.cells #[.int .i64 s.lo, .int .i64 s.hi] 36)) (w2.heap.size + 1) 36 2 encR2_len #[.int .i64 s.lo, .int .i64 s.hi] (htsS l af wd O 1) 1 (w2.heap.size + 1) (by simp) (Nat.le_refl _) (by rw [hh1]; rfl) (by rw [hh1]; rfl) (by unfold maxLen; omega)
    have n3 := ((New.refl w2).alloc (.cells #[.int .i64 s.lo, .int .i64 s.hi] 36)).alloc (.cells #[.int .i64 s.lo, .int .i64 s.hi] 36)
    have t3 := (t2.alloc (.cells #[.int .i64 s.lo, .int .i64 s.hi] 36)).alloc (.cells #[.int .i64 s.lo, .int .i64 s.hi] 36)
    have hs0 : sumH l O 0 = (s.lo, s.hi) := by rw [sumH, HS.out]
    obtain ⟨W3, hW3⟩ : ∃ W3, (w2.alloc (.cells #[.int .i64 s.lo, .int .i64 s.hi] 36)).alloc (.cells #[.int .i64 s.lo, .int .i64 s.hi] 36) = W3 := ⟨_, rfl⟩
    rw [hW3] at bs own0 n3 t3 ⊢
    have hBtl := t2.lt
    clear hW3 b2 t2 q0 lq u1 u2 hh1 hv0
    go_loopw [10, 11, 12, 38] (fun v10 _ _ i wr => ∃ (k : Nat) (A7 : Option Addr) (c7 : Nat), k ≤ m ∧ i = .int .i64 (k : Int) ∧ v10 = .slice A7 (k + 1) c7 ∧ Sky.Own wr (w2.heap.size + 1) 36 2 encR2 A7 (k + 1) c7 (htsS l af wd O (k + 1)) ∧ Bx wr w2.heap.size 36 #[.int .i64 (sumH l O k).1, .int .i64 (sumH l O k).2] ∧ Bx wr Bt 94 #[.slice (some ⟨b, o, none⟩) n cap, .int .i64 af, .int .i64 wd] ∧ New w2 wr) (fun _ _ _ i _ => m - (intOf i).toNat)
    case atStart => exact ⟨0, _, 1, by omega, rfl, rfl, own0, by rw [hs0]; exact bs, t3, n3⟩
    case round =>
      clear bs own0 n3 t3 hs0 g1 g2
      obtain ⟨k, A7, c7, hk, rfl, rfl, own, bs, bt, nr⟩ := hrel
      by_cases hlt : k < m
      · obtain ⟨bo, oo, t, rfl, hbo, hto, hct⟩ := (HRD.out.keep nr).at_ hlt
        have t0 := hct 0 _ rfl
        have t1 := hct 1 _ rfl
        simp only [Nat.add_zero] at t0
        have hts : slAt O k = t := by unfold slAt; rw [hto]; rfl
        obtain ⟨st0, st1, st2⟩ := HOK.out k
        obtain ⟨sm0, sm1, sm2⟩ := sumH_in HT.out HOK.out k
        have HN := Lib.hid (show sumH l O (k + 1) = ((sumH l O k).1 + t.1, (sumH l O k).2 + t.2) by rw [sumH, hts])
        rw [hts] at st0 st1 st2
        obtain ⟨S, hS⟩ : ∃ S, sumH l O k = S := ⟨_, rfl⟩
        rw [hS] at HN sm0 sm1 sm2 bs
        obtain ⟨V, hV⟩ : ∃ V, valS af wd (k + 1) = V := ⟨_, rfl⟩
        have HV := Lib.hid hV
        have hv := val_in HT.out (k + 1)
        rw [hV] at hv
        obtain ⟨hv0, hv1⟩ := hv
        have HPU := Lib.hid (show htsS l af wd O (k + 1 + 1) = htsS l af wd O (k + 1) ++ [(S.1 + t.1, S.2 + t.2 + V)] by rw [hts_push]; unfold htS; rw [HN.out, hV])
        clear hto hct hts hS hV
        have k0 : (0 : Int) ≤ (k : Int) := by omega
        have k1 : (k : Int) < (m : Int) := by omega
        have bs1 := bs.alloc (.cells #[.int .i64 t.1, .int .i64 t.2] 36)
        have bx1 := Bx.mk wr 36 #[.int .i64 t.1, .int .i64 t.2]
        have e0 : wr.cell? ⟨w2.heap.size, 0, none⟩ = some (.int .i64 S.1) := bs.cell 0
        have e1 : wr.cell? ⟨w2.heap.size, 1, none⟩ = some (.int .i64 S.2) := bs.cell 1
        have f0 := bs.free 0
        have f1 := bs.free 1
        have lbs := bs.lt
        have ne1 : w2.heap.size ≠ wr.heap.size := by omega
        have ne2 : wr.heap.size ≠ w2.heap.size := by omega
        go_upto_region 13 with fail
        have bs2 := ((bs.set 0 (.int .i64 (S.1 + t.1))).set 1 (.int .i64 (S.2 + t.2))).alloc (.cells #[.int .i64 t.1, .int .i64 t.2] 36)
        have own2 := ((own.setBelow (p := ⟨w2.heap.size, 0, none⟩) (by show w2.heap.size < w2.heap.size + 1; omega) (.int .i64 (S.1 + t.1))).setBelow (p := ⟨w2.heap.size, 1, none⟩) (by show w2.heap.size < w2.heap.size + 1; omega) (.int .i64 (S.2 + t.2))).alloc (.cells #[.int .i64 t.1, .int .i64 t.2] 36)
        have bt2 := ((bt.far (p := ⟨w2.heap.size, 0, none⟩) (show Bt ≠ w2.heap.size by omega) (.int .i64 (S.1 + t.1))).far (p := ⟨w2.heap.size, 1, none⟩) (show Bt ≠ w2.heap.size by omega) (.int .i64 (S.2 + t.2))).alloc (.cells #[.int .i64 t.1, .int .i64 t.2] 36)
        have nr2 := ((nr.setCell (p := ⟨w2.heap.size, 0, none⟩) (Nat.le_refl _) (.int .i64 (S.1 + t.1))).setCell (p := ⟨w2.heap.size, 1, none⟩) (Nat.le_refl _) (.int .i64 (S.2 + t.2))).alloc (.cells #[.int .i64 t.1, .int .i64 t.2] 36)
        generalize ((wr.setCell ⟨w2.heap.size, 0, none⟩ (.int .i64 (S.1 + t.1))).setCell ⟨w2.heap.size, 1, none⟩ (.int .i64 (S.2 + t.2))).alloc (.cells #[.int .i64 t.1, .int .i64 t.2] 36) = wy at bs2 own2 bt2 nr2 ⊢
        clear bs own bt nr bs1 bx1 e0 e1 f0 f1 lbs ne1 ne2 t0 t1
        obtain ⟨r, hrow, hr1, hr2⟩ : ∃ r, (A7.map (·.block) = none ∨ A7.map (·.block) = some r) ∧ w2.heap.size ≠ r ∧ Bt ≠ r := by
          rcases own2.form with ⟨_, h, _⟩ | ⟨g, h, hg, _⟩
          · omega
          · exact ⟨g, .inr (by rw [h]; rfl), by omega, by omega⟩
        have e0 : wy.cell? ⟨w2.heap.size, 0, none⟩ = some (.int .i64 (S.1 + t.1)) := bs2.cell 0
        have e1 : wy.cell? ⟨w2.heap.size, 1, none⟩ = some (.int .i64 (S.2 + t.2)) := bs2.cell 1
        have c0 : wy.cell? ⟨Bt, 0, none⟩ = some (.slice (some ⟨b, o, none⟩) n cap) := bt2.cell 0
        have c1 : wy.cell? ⟨Bt, 1, none⟩ = some (.int .i64 af) := bt2.cell 1
        have c2 : wy.cell? ⟨Bt, 2, none⟩ = some (.int .i64 wd) := bt2.cell 2
        have lbs := bs2.lt
        have lbt := bt2.lt
        refine wp_region_takesR r 8 6 #[true, true, true, true, true, true, true, true, false, false, false, false, false, false] (by kernel_rfl) (by kernel_rfl) (by kernel_rfl) (by kernel_rfl) (by kernel_rfl) (by kernel_rfl) ?_
        simp only [List.take_succ_cons, List.take_zero]
        (repeat (go_big_quiet_step ((fail))))
        refine wpQuiet_nil ?_
        intro W1 n1
        refine one_next 8 (by kernel_rfl) (new_plusR r n1) (wpOpIn_list rfl ?_)
        gi_wp2_with fail
        refine ⟨trivial, callsIn_wide.2 ((valley_is af wd _ n cap (k + 1) _ V _ (by omega) (by omega) HV.out).mono ?_)⟩
        rintro e w4 ⟨rfl, n4⟩
        gi_wp2
        have n14 := n1.trans n4
        refine one_next 9 (by kernel_rfl) (new_plusR r n14) (wpOpIn_list rfl ?_)
        gi_wp2
        refine one_next 10 (by kernel_rfl) (new_plusR r n14) (wpOpIn_list rfl ?_)
        gi_wp2
        refine one_next 11 (by kernel_rfl) (new_plusR r n14) (wpOpIn_list rfl ?_)
        gi_wp2
        have nC := n14.alloc (.cells #[.int .i64 (S.1 + t.1), .int .i64 (S.2 + t.2 + V)] 36)
        have oB := (own2.keep n14).alloc (.cells #[.int .i64 (S.1 + t.1), .int .i64 (S.2 + t.2 + V)] 36)
        have bB := Bx.mk w4 36 #[.int .i64 (S.1 + t.1), .int .i64 (S.2 + t.2 + V)]
        have hws := (nr2.trans n14).size
        have hw4 : w2.heap.size + 1 ≤ w4.heap.size := by have := n14.size; omega
        refine one_next 12 (by kernel_rfl) (new_plusR r nC) (wpOpIn_list rfl ?_)
        refine wpListIn_flow _ rfl _ _ 29 rfl 36 i0 _ 2 16 Try.underlying29 hi hz0 hz1 hz2 rfl (by omega) (w2.heap.size + 1) encR2 A7 (k + 1) c7 (htsS l af wd O (k + 1)) rfl (by exact oB) (some ⟨w4.heap.size, 0, none⟩) 1 1 [(S.1 + t.1, S.2 + t.2 + V)] rfl (by exact rd_bx bB encR2_len [(S.1 + t.1, S.2 + t.2 + V)] rfl 1 rfl) encR2_one (by unfold maxLen; omega) (by omega) (by simp; omega) ?_
        intro A9 c9 w9 own9 hg9 hN9
        have gr9 := grown_plusR (World.grownBy.trans (grown_new (some r) nC) (grown_any hg9 hrow))
        have N9 := hN9 w2 ((nr2.trans n14).alloc (.cells #[.int .i64 (S.1 + t.1), .int .i64 (S.2 + t.2 + V)] 36)) (by omega)
        have hne : ∀ bb : Nat, bb < w2.heap.size + 1 → some bb ≠ A7.map (·.block) := fun bb hbb h => by
          have := oB.row_ge bb h.symm
          omega
        have bt9 := ((bt2.keep n14).alloc (.cells #[.int .i64 (S.1 + t.1), .int .i64 (S.2 + t.2 + V)] 36)).grown hg9 (hne _ (by omega))
        have bs9 := ((bs2.keep n14).alloc (.cells #[.int .i64 (S.1 + t.1), .int .i64 (S.2 + t.2 + V)] 36)).grown hg9 (hne _ (by omega))
        gi_wp2
        refine one_next 13 (by kernel_rfl) gr9 (wpOpIn_list rfl ?_)
        gi_wp2
        refine end_any gr9 (by kernel_rfl) ?_
        clear gr9 hg9 hN9 hne oB bB nC n14 n1 n4 own2 bs2 bt2 nr2 e0 e1 c0 c1 c2 lbs lbt
        go_wp2_with fail
        go_roundw
        case rel => exact ⟨k + 1, A9, c9, by omega, by go_num, rfl, by rw [HPU.out]; exact own9, by rw [HN.out]; exact bs9, bt9, N9⟩
        case measure => simp [intOf]; omega
      · obtain rfl : k = m := by omega
        have hnk : n = k + 1 := by omega
        go_wp2_with fail
        go_ret2
        exact ⟨N2.trans nr, A7, c7, by rw [hnk]; rfl, by rw [hnk] at *; exact own.rd, by rw [hnk]; exact own.le.1⟩
  · exact absurd HZ.out h0
end Go.Proofs.Yteabmmibmopnkaa
