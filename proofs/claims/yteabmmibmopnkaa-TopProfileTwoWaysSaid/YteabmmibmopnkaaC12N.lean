/- Contracts of chapter 4's reference: FrequencyErr, CheckTrace, TraceErr, CopyTrace; Ranges.
   Contracts: CopyTrace; Ranges against its like. -/
import Derived.BigQuiet
import Derived.Deep.AppendLies
import Derived.Deep.DeepCutAuto
import Derived.Deep.Draws
import Derived.Deep.Quiet
import Derived.Deep.QuietTactic
import Derived.Lib.Hide
import Derived.OrdersIn
import Derived.OwnWalk
import Derived.OwnWalkIn
import Derived.RangeFuncCalls
import Derived.StillTail
import Derived.TacticsIn
import Derived.Test.YteabmmibmopnkaaProg
import Derived.WalkKit
import Derived.WalkLawsBesides
import Derived.WalkSpells
import Derived.Test.YteabmmibmopnkaaC12M

namespace Go.Proofs.Yteabmmibmopnkaa
open Go.RowKit Go.Sky

theorem refFreq_is (n : Int) (c : Bool) (w : World) (h : inR n 1 3000 = c) : Calls Try.prog 96 #[.int .i64 n] w fun e w' => e = .returned (.int .i64 (errU c 2)) ∧ w = w' := by
  cases c
  all_goals
    go_enter Try.func96, Try.ntmps96
    go_wp2_with fail
    refine (bWithin_is _ _ _ _ _ h).mono ?_
    rintro e w' ⟨rfl, rfl⟩
    go_wp2
    go_ret
    exact ⟨rfl, rfl⟩

/-- The first k points are valid. -/
def okTo (l : List Pt) (k : Nat) : Prop := ∀ i, i < k → ((1 ≤ (ptAt l i).f ∧ (ptAt l i).f ≤ 3000) ∧ (0 ≤ (ptAt l i).lo ∧ (ptAt l i).lo ≤ (ptAt l i).hi ∧ (ptAt l i).hi ≤ 20000)) ∧ (0 < i → (ptAt l (i - 1)).f < (ptAt l i).f)
theorem okTo_of {l : List Pt} {af wd : Int} (h : TrOk l af wd) : okTo l l.length := fun i hi => ⟨h.pt i hi, fun h0 => h.lt (by omega) hi⟩
theorem trOk_of {l : List Pt} {af wd : Int} {n : Nat} (hl : l.length = n) (h0 : 0 < n) (h8 : n ≤ 8) (hw : inR wd 0 500 = true) (ha : inR af 0 ((n : Int) - 1) = true) (h : okTo l n) : TrOk l af wd := by
  subst hl
  unfold inR at hw ha
  refine ⟨h0, h8, of_decide_eq_true hw, of_decide_eq_true ha, fun i hi => (h i hi).1, fun i hi => ?_⟩
  have := (h (i + 1) hi).2 (by omega)
  rw [Nat.add_sub_cancel] at this
  exact this
theorem okTo_step {l : List Pt} {k : Nat} {x : Pt} (h : okTo l k) (hx : ptAt l k = x) (h1 : inR x.f 1 3000 = true) (h2 : 0 ≤ x.lo) (h3 : x.lo ≤ x.hi) (h4 : x.hi ≤ 20000) (h5 : 0 < k → (ptAt l (k - 1)).f < x.f) : okTo l (k + 1) := by
  intro i hi
  by_cases e : i = k
  · subst e
    rw [hx]
    unfold inR at h1
    exact ⟨⟨of_decide_eq_true h1, h2, h3, h4⟩, h5⟩
  · exact h i (by omega)

set_option maxRecDepth 100000 in
set_option maxHeartbeats 4000000 in
theorem refCheck_any (l : List Pt) (af wd : Int) (A : Option Addr) (n cap : Nat) (w : World) (hn : n ≤ 1000) (hr : Rd w 3 encQ A n l) :
    Calls Try.prog 43 #[.agg #[.slice A n cap, .int .i64 af, .int .i64 wd]] w fun e w' => New w w' ∧ ∃ i E : Int, e = .returned (.tuple #[.int .i64 i, .int .i64 E]) ∧ (E = 0 ↔ TrOk l af wd) := by
  have hL := hr.len
  have HR := Lib.hid hr; clear hr
  have N0 := (New.refl w).alloc (.cells #[.slice A n cap, .int .i64 af, .int .i64 wd] 24)
  by_cases h0 : n = 0
  · have HNO := Lib.hid (show ¬ TrOk l af wd from fun h => by have := h.len0; omega)
    subst h0
    go_enter Try.func43, Try.ntmps43
    go_wp2
    go_ret2
    exact ⟨N0, 0, 10, rfl, fun h => absurd h (by decide), fun h => absurd h HNO.out⟩
  by_cases h8 : 8 < n
  · have HNO := Lib.hid (show ¬ TrOk l af wd from fun h => by have := h.len8; omega)
    have d0 : ((n : Int) == 0) = false := by simp; omega
    have d1 : (8 : Int) < (n : Int) := by omega
    go_enter Try.func43, Try.ntmps43
    go_wp2
    go_ret2
    exact ⟨N0, 0, 8, rfl, fun h => absurd h (by decide), fun h => absurd h HNO.out⟩
  have d0 : ((n : Int) == 0) = false := by simp; omega
  have d1 : (n : Int) ≤ 8 := by omega
  obtain ⟨bw, hbw⟩ : ∃ c, inR wd 0 500 = c := ⟨_, rfl⟩
  have HBW := Lib.hid hbw
  cases bw
  · have HNO := Lib.hid (show ¬ TrOk l af wd from fun h => by have := h.wd; rw [inR_true this.1 this.2] at hbw; cases hbw)
    clear hbw
    go_enter Try.func43, Try.ntmps43
    go_wp2_with fail
    refine (bWithin_is _ _ _ _ _ HBW.out).mono ?_
    rintro e w' ⟨rfl, rfl⟩
    go_wp2
    go_ret2
    exact ⟨N0, 0, 2, rfl, fun h => absurd h (by decide), fun h => absurd h HNO.out⟩
  clear hbw
  obtain ⟨ba, hba⟩ : ∃ c, inR af 0 ((n : Int) - 1) = c := ⟨_, rfl⟩
  have HBA := Lib.hid hba
  cases ba
  · have HNO := Lib.hid (show ¬ TrOk l af wd from fun h => by have := h.af; rw [hL] at this; rw [inR_true this.1 this.2] at hba; cases hba)
    clear hba
    go_enter Try.func43, Try.ntmps43
    go_wp2_with fail
    refine (bWithin_is _ _ _ _ _ HBW.out).mono ?_
    rintro e w' ⟨rfl, rfl⟩
    go_wp2_with fail
    refine (bWithin_is _ _ _ _ _ HBA.out).mono ?_
    rintro e w' ⟨rfl, rfl⟩
    go_wp2
    go_ret2
    exact ⟨N0, 0, 6, rfl, fun h => absurd h (by decide), fun h => absurd h HNO.out⟩
  clear hba
  have b0 := Bx.mk w 24 #[.slice A n cap, .int .i64 af, .int .i64 wd]
  go_enter Try.func43, Try.ntmps43
  go_wp2_with fail
  refine (bWithin_is _ _ _ _ _ HBW.out).mono ?_
  rintro e w' ⟨rfl, rfl⟩
  go_wp2_with fail
  refine (bWithin_is _ _ _ _ _ HBA.out).mono ?_
  rintro e w' ⟨rfl, rfl⟩
  go_wp2
  obtain ⟨W1, hW1⟩ : ∃ W1, w.alloc (.cells #[.slice A n cap, .int .i64 af, .int .i64 wd] 24) = W1 := ⟨_, rfl⟩
  rw [hW1] at b0 N0 ⊢
  clear hW1
  go_loopw [4, 5] (fun i _ wr => ∃ k : Nat, k ≤ n ∧ i = .int .i64 (k : Int) ∧ Hid (okTo l k) ∧ New W1 wr) (fun i _ _ => n - (intOf i).toNat)
  case atStart => exact ⟨0, by omega, rfl, fun i hi => absurd hi (by omega), New.refl _⟩
  case round =>
    obtain ⟨k, hk, rfl, HOK, nr⟩ := hrel
    have bt := b0.keep nr
    have c0 : wr.cell? ⟨w.heap.size, 0, none⟩ = some (.slice A n cap) := bt.cell 0
    have lt0 := bt.lt
    by_cases hlt : k < n
    · obtain ⟨b, o, x, rfl, hb, hx, hc⟩ := (HR.out.keep (N0.trans nr)).at_ hlt
      have g0 := hc 0 _ rfl
      have g1 := hc 1 _ rfl
      have g2 := hc 2 _ rfl
      simp only [Nat.add_zero] at g0
      have HPX := Lib.hid (ptAt_of hx)
      have HBAD := Lib.hid (show ¬ (((1 ≤ x.f ∧ x.f ≤ 3000) ∧ (0 ≤ x.lo ∧ x.lo ≤ x.hi ∧ x.hi ≤ 20000)) ∧ (0 < k → (ptAt l (k - 1)).f < x.f)) → ¬ TrOk l af wd from fun hb' h => by
        have := okTo_of h k (by omega)
        rw [ptAt_of hx] at this
        exact hb' this)
      have k0 : (0 : Int) ≤ (k : Int) := by omega
      have k1 : (k : Int) < (n : Int) := by omega
      have bx := Bx.mk wr 38 #[.int .i64 x.f, .int .i64 x.lo, .int .i64 x.hi]
      have nx := nr.alloc (.cells #[.int .i64 x.f, .int .i64 x.lo, .int .i64 x.hi] 38)
      have d00 : World.cell? _ ⟨wr.heap.size, 0, none⟩ = some (.int .i64 x.f) := bx.cell 0
      have d01 : World.cell? _ ⟨wr.heap.size, 1, none⟩ = some (.int .i64 x.lo) := bx.cell 1
      have d02 : World.cell? _ ⟨wr.heap.size, 2, none⟩ = some (.int .i64 x.hi) := bx.cell 2
      have lx := bx.lt
      have lt1 : w.heap.size < wr.heap.size + 1 := by omega
      have hb1 : b < wr.heap.size + 1 := by omega
      clear hc
      obtain ⟨bf, hbf⟩ : ∃ c, inR x.f 1 3000 = c := ⟨_, rfl⟩
      have HBF := Lib.hid hbf
      cases bf
      · have HNO := Lib.hid (HBAD.out (fun h => by rw [inR_true h.1.1.1 h.1.1.2] at hbf; cases hbf))
        clear hbf
        go_wp2_with fail
        refine (refFreq_is _ _ _ HBF.out).mono ?_
        rintro e w' ⟨rfl, rfl⟩
        rw [show errU false 2 = 2 from rfl]
        go_wp2
        go_ret2
        exact ⟨N0.trans nx, _, 2, rfl, fun h => absurd h (by decide), fun h => absurd h HNO.out⟩
      clear hbf
      obtain ⟨bl, hbl⟩ : ∃ c, inR x.lo 0 20000 = c := ⟨_, rfl⟩
      have HBL := Lib.hid hbl
      cases bl
      · have HNO := Lib.hid (HBAD.out (fun h => by rw [inR_true h.1.2.1 (by omega)] at hbl; cases hbl))
        clear hbl
        go_wp2_with fail
        refine (refFreq_is _ _ _ HBF.out).mono ?_
        rintro e w' ⟨rfl, rfl⟩
        rw [show errU true 2 = 0 from rfl]
        go_wp2_with fail
        refine (bWithin_is _ _ _ _ _ HBL.out).mono ?_
        rintro e w' ⟨rfl, rfl⟩
        go_wp2
        go_ret2
        exact ⟨N0.trans nx, _, 2, rfl, fun h => absurd h (by decide), fun h => absurd h HNO.out⟩
      have hlo : 0 ≤ x.lo ∧ x.lo ≤ 20000 := by unfold inR at hbl; exact of_decide_eq_true hbl
      clear hbl
      obtain ⟨bh, hbh⟩ : ∃ c, inR x.hi 0 20000 = c := ⟨_, rfl⟩
      have HBH := Lib.hid hbh
      cases bh
      · have HNO := Lib.hid (HBAD.out (fun h => by rw [inR_true (show 0 ≤ x.hi by omega) h.1.2.2.2] at hbh; cases hbh))
        clear hbh
        go_wp2_with fail
        refine (refFreq_is _ _ _ HBF.out).mono ?_
        rintro e w' ⟨rfl, rfl⟩
        rw [show errU true 2 = 0 from rfl]
        go_wp2_with fail
        refine (bWithin_is _ _ _ _ _ HBL.out).mono ?_
        rintro e w' ⟨rfl, rfl⟩
        go_wp2_with fail
        refine (bWithin_is _ _ _ _ _ HBH.out).mono ?_
        rintro e w' ⟨rfl, rfl⟩
        go_wp2
        go_ret2
        exact ⟨N0.trans nx, _, 2, rfl, fun h => absurd h (by decide), fun h => absurd h HNO.out⟩
      have hhi : 0 ≤ x.hi ∧ x.hi ≤ 20000 := by unfold inR at hbh; exact of_decide_eq_true hbh
      clear hbh
      obtain ⟨hlo0, hlo1⟩ := hlo
      obtain ⟨hhi0, hhi1⟩ := hhi
      go_wp2_with fail
      refine (refFreq_is _ _ _ HBF.out).mono ?_
      rintro e w' ⟨rfl, rfl⟩
      rw [show errU true 2 = 0 from rfl]
      go_wp2_with fail
      refine (bWithin_is _ _ _ _ _ HBL.out).mono ?_
      rintro e w' ⟨rfl, rfl⟩
      go_wp2_with fail
      refine (bWithin_is _ _ _ _ _ HBH.out).mono ?_
      rintro e w' ⟨rfl, rfl⟩
      by_cases hord : x.hi < x.lo
      · have HNO := Lib.hid (HBAD.out (fun h => by have := h.1.2.2.1; omega))
        have t1 : decide (x.hi < x.lo) = true := decide_eq_true hord
        go_wp2
        (refine wp_region_new (by kernel_rfl) (by kernel_rfl) ?_; (repeat (go_big_quiet_step ((fail)))); refine wpQuiet_nil ?_)
        intro w5 n5
        go_wp2
        go_ret2
        exact ⟨N0.trans (nx.trans n5), _, 9, rfl, fun h => absurd h (by decide), fun h => absurd h HNO.out⟩
      have t1 : decide (x.hi < x.lo) = false := decide_eq_false hord
      by_cases hk0 : k = 0
      · have HST := Lib.hid (okTo_step HOK.out HPX.out HBF.out hlo0 (by omega) hhi1 (fun h => by omega))
        subst hk0
        have t2 : decide ((0 : Int) < ((0 : Nat) : Int)) = false := rfl
        go_wp2
        (refine wp_region_new (by kernel_rfl) (by kernel_rfl) ?_; (repeat (go_big_quiet_step ((fail)))); refine wpQuiet_nil ?_)
        intro w5 n5
        go_wp2
        go_roundw
        case rel => exact ⟨0 + 1, by omega, by go_num, HST, nx.trans n5⟩
        case measure => simp [intOf]; omega
      · have t2 : decide ((0 : Int) < (k : Int)) = true := decide_eq_true (by omega)
        have t2' : decide (0 < k) = true := decide_eq_true (by omega)
        obtain ⟨b', o', y, e', hb', hy, hc'⟩ := (HR.out.keep (N0.trans nr)).at_ (show k - 1 < n by omega)
        injection e' with e'
        injection e' with e1 e2
        subst e1 e2
        have gy := hc' 0 _ rfl
        simp only [Nat.add_zero] at gy
        have HPY := Lib.hid (ptAt_of hy)
        have j0 : (0 : Int) ≤ (k : Int) - 1 := by omega
        have j1 : (k : Int) - 1 < (n : Int) := by omega
        obtain ⟨k', hk'⟩ : ∃ k', k - 1 = k' := ⟨_, rfl⟩
        have hkk : (k : Int) - 1 = (k' : Int) := by omega
        rw [hk'] at gy HPY
        clear hc' hy
        by_cases hfo : x.f ≤ y.f
        · have HNO := Lib.hid (HBAD.out (fun h => by have := h.2 (by omega); rw [hk', HPY.out] at this; omega))
          have t3 : decide (x.f ≤ y.f) = true := decide_eq_true hfo
          go_wp2
          (refine wp_region_new (by kernel_rfl) (by kernel_rfl) ?_; (repeat (go_big_quiet_step ((fail)))); refine wpQuiet_nil ?_)
          intro w5 n5
          go_wp2
          go_ret2
          exact ⟨N0.trans (nx.trans n5), _, 9, rfl, fun h => absurd h (by decide), fun h => absurd h HNO.out⟩
        · have HST := Lib.hid (okTo_step HOK.out HPX.out HBF.out hlo0 (by omega) hhi1 (fun h => by rw [hk', HPY.out]; omega))
          have t3 : decide (x.f ≤ y.f) = false := decide_eq_false hfo
          go_wp2
          (refine wp_region_new (by kernel_rfl) (by kernel_rfl) ?_; (repeat (go_big_quiet_step ((fail)))); refine wpQuiet_nil ?_)
          intro w5 n5
          go_wp2
          go_roundw
          case rel => exact ⟨k + 1, by omega, by go_num, HST, nx.trans n5⟩
          case measure => simp [intOf]; omega
    · have hkn : k = n := by omega
      have HYES := Lib.hid (trOk_of hL (by omega) (by omega) HBW.out HBA.out (hkn ▸ HOK.out))
      go_wp2
      go_ret2
      exact ⟨N0.trans nr, 0, 0, rfl, fun _ => HYES.out, fun _ => rfl⟩

set_option maxHeartbeats 1000000 in
theorem refTraceErr_any (l : List Pt) (af wd : Int) (A : Option Addr) (n cap : Nat) (w : World) (hn : n ≤ 1000) (hr : Rd w 3 encQ A n l) :
    Calls Try.prog 10 #[.agg #[.slice A n cap, .int .i64 af, .int .i64 wd]] w fun e w' => New w w' ∧ ∃ E : Int, e = .returned (.int .i64 E) ∧ (E = 0 ↔ TrOk l af wd) := by
  have HR := Lib.hid hr; clear hr
  have N0 := (New.refl w).alloc (.cells #[.slice A n cap, .int .i64 af, .int .i64 wd] 24)
  go_enter Try.func10, Try.ntmps10
  go_wp2_with fail
  refine (refCheck_any l af wd A n cap _ hn (HR.out.keep N0)).mono ?_
  rintro e w1 ⟨n1, i, E, rfl, hiff⟩
  have HI := Lib.hid hiff
  clear hiff
  go_wp2
  go_ret
  exact ⟨N0.trans n1, E, rfl, HI.out⟩
end Go.Proofs.Yteabmmibmopnkaa

namespace Go.Proofs.Yteabmmibmopnkaa
open Go.RowKit Go.Sky

theorem infoPt : (Try.prog.info? 38).map (fun i => (i.zero, i.size, i.bytes)) = some (some (.agg #[.int .i64 0, .int .i64 0, .int .i64 0]), 3, 24) := by kernel_rfl

set_option maxRecDepth 100000 in
set_option maxHeartbeats 2000000 in
theorem copyTrace_any (l : List Pt) (af wd : Int) (A : Option Addr) (n cap : Nat) (w : World) (hn : n ≤ 1000) (hr : Rd w 3 encQ A n l) :
    Calls Try.prog 12 #[.agg #[.slice A n cap, .int .i64 af, .int .i64 wd]] w fun e w' => ∃ A' c', e = .returned (.agg #[.slice A' n c', .int .i64 af, .int .i64 wd]) ∧ Sky.Own w' w.heap.size 38 3 encQ A' n c' l ∧ New w w' := by
  obtain ⟨i0, hi, hz0, hz1, hz2⟩ := info_parts infoPt
  have HR := Lib.hid hr; clear hr
  have N0 := (New.refl w).alloc (.cells #[.slice A n cap, .int .i64 af, .int .i64 wd] 24)
  have b0 := Bx.mk w 24 #[.slice A n cap, .int .i64 af, .int .i64 wd]
  go_enter Try.func12, Try.ntmps12
  go_wp2_with fail
  obtain ⟨W1, hW1⟩ : ∃ W1, w.alloc (.cells #[.slice A n cap, .int .i64 af, .int .i64 wd] 24) = W1 := ⟨_, rfl⟩
  have hsz : W1.heap.size = w.heap.size + 1 := by rw [← hW1]; simp
  rw [hW1] at b0 N0 ⊢
  clear hW1
  have bz := Bx.mk_at W1 24 #[.slice none 0 0, .int .i64 0, .int .i64 0] (w.heap.size + 1) hsz.symm
  have n2 := (New.refl W1).alloc (.cells #[.slice none 0 0, .int .i64 0, .int .i64 0] 24)
  have c0 : W1.cell? ⟨w.heap.size, 0, none⟩ = some (.slice A n cap) := b0.cell 0
  have c1 : W1.cell? ⟨w.heap.size, 1, none⟩ = some (.int .i64 af) := b0.cell 1
  have c2 : W1.cell? ⟨w.heap.size, 2, none⟩ = some (.int .i64 wd) := b0.cell 2
  have l0 := b0.lt
  obtain ⟨W2, hW2⟩ : ∃ W2, W1.alloc (.cells #[.slice none 0 0, .int .i64 0, .int .i64 0] 24) = W2 := ⟨_, rfl⟩
  rw [hW2] at bz n2 ⊢
  have hsz2 : W2.heap.size = w.heap.size + 2 := by rw [← hW2]; simp [hsz]
  clear hW2
  refine wp_region_takes0 W1 n2 0 10 #[false, false, false, false, false, false, false, false, false, false] (by kernel_rfl) (by kernel_rfl) (by kernel_rfl) (by kernel_rfl) (by kernel_rfl) (by kernel_rfl) ?_
  simp only [List.take_zero]
  refine wpQuiet_nil ?_
  intro W3 n3
  refine take_next 1 2 #[false, true, true, false, false, false, false, false, false, false] rfl (by kernel_rfl) (by kernel_rfl) (by kernel_rfl) (by kernel_rfl) (by decide) ?_
  simp only [List.take_succ_cons, List.take_zero, List.drop_succ_cons, List.drop_zero]
  (repeat (go_big_quiet_step ((fail))))
  refine wpQuiet_nil ?_
  refine take_next 4 4 #[false, true, true, false, true, true, true, true, false, false] rfl (by kernel_rfl) (by kernel_rfl) (by kernel_rfl) (by kernel_rfl) (by decide) ?_
  simp only [List.take_succ_cons, List.take_zero, List.drop_succ_cons, List.drop_zero]
  (repeat (go_big_quiet_step ((fail))))
  refine wpQuiet_nil ?_
  have n13 := n2.trans n3
  refine one_next 0 (by kernel_rfl) (new_plus n13) (wpOpIn_list rfl ?_)
  gi_wp2
  have n4 := n3.alloc (.cells #[] 38)
  have n14 := n2.trans n4
  have oE := Own.empty W3 W2.heap.size 38 3 encQ_len W3.heap.size rfl n3.size
  refine one_next 3 (by kernel_rfl) (new_plus n14) (wpOpIn_list rfl ?_)
  refine wpListIn_flow _ rfl _ _ 22 rfl 38 i0 _ 3 24 Try.underlying22 hi hz0 hz1 hz2 rfl (by omega) W2.heap.size encQ (some ⟨W3.heap.size, 0, none⟩) 0 0 [] rfl (by exact oE) A n cap l rfl (by exact HR.out.keep (N0.trans n14)) encQ_one (by unfold maxLen; omega) (by omega) (by exact n4.size) ?_
  intro A5 c5 w5 own5 hg5 hN5
  have n5 := hN5 W2 n4 (Nat.le_refl _)
  have n15 := n2.trans n5
  gi_wp2
  refine one_next 8 (by kernel_rfl) (new_plus n15) (wpOpIn_list rfl ?_)
  gi_wp2
  have bz5 := bz.keep n5
  rw [Nat.zero_add, List.nil_append] at own5
  have k0 : w5.cell? ⟨w.heap.size + 1, 0, none⟩ = some (.slice none 0 0) := bz5.cell 0
  have k1 : w5.cell? ⟨w.heap.size + 1, 1, none⟩ = some (.int .i64 0) := bz5.cell 1
  have k2 : w5.cell? ⟨w.heap.size + 1, 2, none⟩ = some (.int .i64 0) := bz5.cell 2
  have f0 := bz5.free 0
  have f1 := bz5.free 1
  have f2 := bz5.free 2
  have lz := bz5.lt
  have bb := ((bz5.set 0 (.slice A5 n c5)).set 1 (.int .i64 af)).set 2 (.int .i64 wd)
  have NN := (((N0.trans n15).setCell (p := ⟨w.heap.size + 1, 0, none⟩) (by simp) (.slice A5 n c5)).setCell (p := ⟨w.heap.size + 1, 1, none⟩) (by simp) (.int .i64 af)).setCell (p := ⟨w.heap.size + 1, 2, none⟩) (by simp) (.int .i64 wd)
  have N1N := ((n15.setCell (p := ⟨w.heap.size + 1, 0, none⟩) (by simp; omega) (.slice A5 n c5)).setCell (p := ⟨w.heap.size + 1, 1, none⟩) (by simp; omega) (.int .i64 af)).setCell (p := ⟨w.heap.size + 1, 2, none⟩) (by simp; omega) (.int .i64 wd)
  have oo := ((own5.setBelow (p := ⟨w.heap.size + 1, 0, none⟩) (by simp; omega) (.slice A5 n c5)).setBelow (p := ⟨w.heap.size + 1, 1, none⟩) (by simp; omega) (.int .i64 af)).setBelow (p := ⟨w.heap.size + 1, 2, none⟩) (by simp; omega) (.int .i64 wd)
  refine one_next 9 (by kernel_rfl) (new_plus n15) (wpOpIn_list rfl ?_)
  gi_wp2
  refine end_any (new_plus N1N) (by kernel_rfl) ?_
  generalize ((w5.setCell ⟨w.heap.size + 1, 0, none⟩ (.slice A5 n c5)).setCell ⟨w.heap.size + 1, 1, none⟩ (.int .i64 af)).setCell ⟨w.heap.size + 1, 2, none⟩ (.int .i64 wd) = W6 at bb NN N1N oo ⊢
  have e0 : W6.cell? ⟨w.heap.size + 1, 0, none⟩ = some (.slice A5 n c5) := bb.cell 0
  have e1 : W6.cell? ⟨w.heap.size + 1, 1, none⟩ = some (.int .i64 af) := bb.cell 1
  have e2 : W6.cell? ⟨w.heap.size + 1, 2, none⟩ = some (.int .i64 wd) := bb.cell 2
  go_wp2_with fail
  exact bodyPost_ret (v := .agg #[.slice A5 n c5, .int .i64 af, .int .i64 wd]) (by simp [results, Try.results12, go_sem, e0, e1, e2]) rfl ⟨A5, c5, rfl, oo.base_le (by omega), NN⟩

set_option maxRecDepth 100000 in
set_option maxHeartbeats 1000000 in
theorem ranges_like (A B : Option Addr) (n c1 c2 : Nat) (xs : List (Int × Int)) (w : World) (hn : n ≤ 1000000) (hr : Rd w 2 encR2 A n xs) (hs : Rd w 2 encR2 B n xs) :
    Calls Try.prog 15 #[.slice A n c1, .slice B n c2] w fun e w' => e = .returned (.bool true) ∧ New w w' := by
  have HR := Lib.hid hr; clear hr
  have HS := Lib.hid hs; clear hs
  have heq := eql_rng
  have hgu := guard_rng
  have d0 : ((n : Int) != (n : Int)) = false := by simp
  go_enter Try.func15, Try.ntmps15
  go_wp2
  go_loopw [5] (fun i wr => ∃ k : Nat, k ≤ n ∧ i = .int .i64 (k : Int) ∧ New w wr) (fun i _ => n - (intOf i).toNat)
  case atStart => exact ⟨0, by omega, rfl, New.refl _⟩
  case round =>
    obtain ⟨k, hk, rfl, hN⟩ := hrel
    by_cases hlt : k < n
    · obtain ⟨b, o, x, rfl, hb, hx, hc⟩ := (HR.out.keep hN).at_ hlt
      obtain ⟨b', o', x', rfl, hb', hx', hc'⟩ := (HS.out.keep hN).at_ hlt
      rw [hx] at hx'
      injection hx' with hx'
      subst hx'
      have g0 := hc 0 _ rfl
      have g1 := hc 1 _ rfl
      have k0 := hc' 0 _ rfl
      have k1 := hc' 1 _ rfl
      simp only [Nat.add_zero] at g0 k0
      have i0 : (0 : Int) ≤ (k : Int) := by omega
      have i1 : (k : Int) < (n : Int) := by omega
      have e1 : (x.1 == x.1) = true := by simp
      have e2 : (x.2 == x.2) = true := by simp
      clear hx hc hc'
      go_wp2
      (refine wp_region_new (by kernel_rfl) (by kernel_rfl) ?_; (repeat (go_big_quiet_step ((fail)))); refine wpQuiet_nil ?_)
      intro w2 n2
      go_wp2
      go_roundw
      case rel => exact ⟨k + 1, by omega, by go_num, hN.trans n2⟩
      case measure => simp [intOf]; omega
    · go_wp2
      go_ret
      exact ⟨rfl, hN⟩
end Go.Proofs.Yteabmmibmopnkaa
