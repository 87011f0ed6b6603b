/- Contracts: the weights of stations at a place, the ends of the value.
   Contracts: light. -/
import Derived.BigQuiet
import Derived.Deep.AppendLies
import Derived.Deep.Draws
import Derived.Deep.Quiet
import Derived.Deep.QuietTactic
import Derived.Laws.BitsAllLaws
import Derived.Lib.Hide
import Derived.MapKept
import Derived.Maps.Keyed
import Derived.OrdersIn
import Derived.OwnWalkIn
import Derived.RangeFuncCalls
import Derived.Shelf.RegionOpen
import Derived.StillTail
import Derived.TacticsIn
import Derived.Test.YtaogolnoiffgiaaProg
import Derived.WalkKit
import Derived.WalkLawsBesides
import Derived.WalkSpells
import Derived.Test.YtaogolnoiffgiaaC22I
import Derived.Test.YtaogolnoiffgiaaC22K
import Derived.Test.YtaogolnoiffgiaaC22R

namespace Go.Proofs.Ytaogolnoiffgiaa
open Go.RowKit Go.Sky Go.Sky.Ch

theorem eql_pl_d (n : Nat) (x y u v : Int) (W : World) : (Op.equalIn (n + 2) 73 (.agg #[.int .i64 x, .int .i64 y]) (.agg #[.int .i64 u, .int .i64 v])).run Try.prog W = .ok (x == u && y == v) W := by
  have u1 := Try.underlying73
  have u3 := Try.underlying3
  have z3 := Try.sizeOf3
  have a3 := Try.isAgg3
  rw [Op.equalIn]
  by_cases h1 : x = u
  · by_cases h2 : y = v
    · subst h1 h2
      simp [run_underlying u1, part, go_sem, a3, u3, z3]
    · have e2 : (y == v) = false := by simpa using h2
      subst h1
      simp [run_underlying u1, part, go_sem, a3, u3, z3, e2]
  · have e1 : (x == u) = false := by simpa using h1
    simp [run_underlying u1, part, go_sem, a3, u3, z3, e1]
theorem eql_pl (x y u v : Int) (W : World) : (Op.equalIn 10000 73 (.agg #[.int .i64 x, .int .i64 y]) (.agg #[.int .i64 u, .int .i64 v])).run Try.prog W = .ok (x == u && y == v) W := eql_pl_d 9998 x y u v W
theorem guard_pl : (Try.prog).eqGuardType (Try.prog).depth 73 = false := by kernel_rfl

theorem own_lt {α : Type} {w : World} {base e k n cap g : Nat} {enc : α → List Value} {xs : List α} (h : Sky.Own w base e k enc (some ⟨g, 0, none⟩) n cap xs) : g < w.heap.size := by
  rcases h.form with ⟨h, _⟩ | ⟨g', h, _, h2, _⟩
  · cases h
  · injection h with h; injection h with h; omega
def optI : Option Nat → Int
  | none => -1
  | some b => (b : Int)

set_option maxRecDepth 100000 in
set_option maxHeartbeats 8000000 in
theorem cWeights_any (A : Option Addr) (n cap : Nat) (l : List Sta) (x y : Int) (w : World) (hn : n ≤ 5) (hr : Rd w 6 encSt A n l) (hs : ∀ s ∈ l, StOk s) (hp : PlOk x y) :
    Calls Try.prog 152 #[.slice A n cap, .agg #[.int .i64 x, .int .i64 y]] w fun e w' => New w w' ∧ ∃ g, e = .returned (.tuple #[.slice (some ⟨g, 0, none⟩) n n, .int .i64 (wS l x y).2]) ∧ w.heap.size ≤ g ∧ Rd w' 1 encI (some ⟨g, 0, none⟩) n (wS l x y).1 := by
  obtain ⟨i0, hi, hz0, hz1, hz2⟩ := info_parts infoInt
  have HL := Lib.hid hr.len
  have HR := Lib.hid hr
  have HS := Lib.hid hs
  have HP := Lib.hid hp
  clear hr hs hp
  have heq := eql_pl
  have hgu := guard_pl
  go_enter Try.func152, Try.ntmps152
  have b0 := Bx.mk w 73 #[.int .i64 x, .int .i64 y]
  have N0 := (New.refl w).alloc (.cells #[.int .i64 x, .int .i64 y] 73)
  go_wp2_with (refine wpList_mk _ rfl _ _ 22 rfl (w.heap.size + 1) 3 i0 _ Try.underlying22 hi hz0 hz1 rfl encI (fun _ => rfl) 0 rfl n rfl rfl (by rw [hz2]; omega) (by unfold maxLen; omega) (by simp) ?_; intro w2 hown n2 hlt2)
  have N2 := N0.trans n2
  have c2 := b0.keep n2
  obtain ⟨g, hg⟩ : ∃ g, w.heap.size + 1 = g := ⟨_, rfl⟩
  have HGE := Lib.hid hg
  try rw [show (w.alloc (.cells #[.int .i64 x, .int .i64 y] 73)).heap.size = w.heap.size + 1 by simp] at hown
  rw [hg] at hown ⊢
  have hgw : w.heap.size < g := by omega
  have HG2 := Lib.hid (show w.heap.size + 1 ≤ w2.heap.size from by have := n2.size; simp at this; omega)
  clear hg hlt2 b0 N0 n2
  have HOWN := Lib.hid hown
  have HC2 := Lib.hid c2
  clear hown c2
  go_loopw [7, 20] (fun bst i wr => ∃ k : Nat, k ≤ n ∧ i = .int .i64 (k : Int) ∧ bst = .int .i64 (optI (bestTo l x y k)) ∧ New w2 wr) (fun _ i _ => n - (intOf i).toNat)
  case atStart => exact ⟨0, by omega, rfl, rfl, New.refl _⟩
  case round =>
    obtain ⟨k, hk, rfl, rfl, hN⟩ := hrel
    by_cases hlt : k < n
    · obtain ⟨b, o, s, rfl, hb, hx, hc⟩ := (HR.out.keep (N2.trans hN)).at_ hlt
      have g0 := hc 0 _ rfl
      have g1 := hc 1 _ rfl
      have g2 := hc 2 _ rfl
      have g3 := hc 3 _ rfl
      have g4 := hc 4 _ rfl
      have g5 := hc 5 _ rfl
      simp only [Nat.add_zero] at g0
      have HST := Lib.hid (best_step (x := x) (y := y) hx)
      have HBL := Lib.hid (best_lt l x y k)
      have i0' : (0 : Int) ≤ (k : Int) := by omega
      have i1 : (k : Int) < (n : Int) := by omega
      clear hx hc
      have b1 := Bx.mk wr 99 (encSt s).toArray
      have N1 := hN.alloc (.cells (encSt s).toArray 99)
      have c3 := HC2.out.keep N1
      have R1 := Lib.hid (HR.out.keep (N2.trans N1))
      obtain ⟨e1, he1⟩ : ∃ v, (s.x == x && s.y == y) = v := ⟨_, rfl⟩
      obtain ⟨bo, hbo⟩ : ∃ v, bestTo l x y k = v := ⟨_, rfl⟩
      rw [hbo] at HST HBL ⊢
      have HBT := Lib.hid (show better l x y bo s = (e1 && younger l s bo) by rw [← he1]; rfl)
      clear hbo
      have k0 : World.cell? (wr.alloc (.cells (encSt s).toArray 99)) ⟨w.heap.size, 0, none⟩ = some (.int .i64 x) := c3.cell 0
      have k1 : World.cell? (wr.alloc (.cells (encSt s).toArray 99)) ⟨w.heap.size, 1, none⟩ = some (.int .i64 y) := c3.cell 1
      have l3 := c3.lt
      obtain ⟨W1, hW1⟩ : ∃ W1, wr.alloc (.cells (encSt s).toArray 99) = W1 := ⟨_, rfl⟩
      have hW1' : wr.alloc (.cells #[.string s.n, .int .i64 s.x, .int .i64 s.y, .int .i64 s.lo, .int .i64 s.hi, .int .i64 s.a] 99) = W1 := hW1
      rw [hW1] at b1 N1 R1 k0 k1 l3
      have d0 : W1.cell? ⟨wr.heap.size, 0, none⟩ = some (.string s.n) := b1.cell 0
      have d1 : W1.cell? ⟨wr.heap.size, 1, none⟩ = some (.int .i64 s.x) := b1.cell 1
      have d2 : W1.cell? ⟨wr.heap.size, 2, none⟩ = some (.int .i64 s.y) := b1.cell 2
      have d5 : W1.cell? ⟨wr.heap.size, 5, none⟩ = some (.int .i64 s.a) := b1.cell 5
      have ld := b1.lt
      clear b1 c3 hW1
      cases e1
      · have HV := Lib.hid (show bestTo l x y (k + 1) = bo by rw [HST.out, HBT.out]; rfl)
        go_wp2_with fail
        try rw [hW1']
        (refine wp_region_new (by kernel_rfl) (by kernel_rfl) ?_; (repeat (go_big_quiet_step ((fail)))); refine wpQuiet_nil ?_)
        intro w3 n3
        go_wp2_with fail
        go_roundw
        case rel => exact ⟨k + 1, by omega, by go_num, by rw [HV.out], N1.trans n3⟩
        case measure => simp [intOf]; omega
      · cases bo with
        | none =>
          have HV := Lib.hid (show bestTo l x y (k + 1) = some k by rw [HST.out, HBT.out]; rfl)
          have q0 : optI none = -1 := rfl
          go_wp2_with fail
          try rw [hW1']
          (refine wp_region_new (by kernel_rfl) (by kernel_rfl) ?_; (repeat (go_big_quiet_step ((fail)))); refine wpQuiet_nil ?_)
          intro w3 n3
          go_wp2_with fail
          go_roundw
          case rel => exact ⟨k + 1, by omega, by go_num, by rw [HV.out]; rfl, N1.trans n3⟩
          case measure => simp [intOf]; omega
        | some j =>
          have hjk := HBL.out j rfl
          have q0 : optI (some j) = (j : Int) := rfl
          obtain ⟨b2, o2, t, hA2, hb2, ht, hct⟩ := R1.out.at_ (show j < n by omega)
          injection hA2 with hA2
          injection hA2 with ea eb ec
          subst ea eb
          have t5 := hct 5 _ rfl
          have HAG := Lib.hid (show ageAt l j = t.a by unfold ageAt; rw [ht])
          have j0 : (0 : Int) ≤ (j : Int) := by omega
          have j1 : (j : Int) < (n : Int) := by omega
          have j2 : decide ((j : Int) < 0) = false := decide_eq_false (by omega)
          clear ht hct
          obtain ⟨e2, he2⟩ : ∃ v, decide (s.a < t.a) = v := ⟨_, rfl⟩
          have HE2 := Lib.hid he2
          cases e2
          · have HV := Lib.hid (show bestTo l x y (k + 1) = some j by
              rw [HST.out, HBT.out]
              show (if (true && decide (s.a < ageAt l j)) = true then some k else some j) = _
              rw [HAG.out, HE2.out]; rfl)
            go_wp2_with fail
            try rw [hW1']
            (refine wp_region_new (by kernel_rfl) (by kernel_rfl) ?_; (repeat (go_big_quiet_step ((fail)))); refine wpQuiet_nil ?_)
            intro w3 n3
            go_wp2_with fail
            go_roundw
            case rel => exact ⟨k + 1, by omega, by go_num, by rw [HV.out]; rfl, N1.trans n3⟩
            case measure => simp [intOf]; omega
          · have HV := Lib.hid (show bestTo l x y (k + 1) = some k by
              rw [HST.out, HBT.out]
              show (if (true && decide (s.a < ageAt l j)) = true then some k else some j) = _
              rw [HAG.out, HE2.out]; rfl)
            go_wp2_with fail
            try rw [hW1']
            (refine wp_region_new (by kernel_rfl) (by kernel_rfl) ?_; (repeat (go_big_quiet_step ((fail)))); refine wpQuiet_nil ?_)
            intro w3 n3
            go_wp2_with fail
            go_roundw
            case rel => exact ⟨k + 1, by omega, by go_num, by rw [HV.out]; rfl, N1.trans n3⟩
            case measure => simp [intOf]; omega
    · obtain rfl : k = n := by omega
      have HWS := Lib.hid (show wS l x y = wOf l x y (bestTo l x y k) by unfold wS; rw [HL.out])
      have HBL := Lib.hid (best_lt l x y k)
      have hown := HOWN.out.keep hN
      obtain ⟨bo, hbo⟩ : ∃ v, bestTo l x y k = v := ⟨_, rfl⟩
      rw [hbo] at HWS HBL ⊢
      clear hbo
      cases bo with
      | some j =>
        have q0 : optI (some j) = (j : Int) := rfl
        have hjk := HBL.out j rfl
        have j0 : (0 : Int) ≤ (j : Int) := by omega
        have j1 : (j : Int) < (k : Int) := by omega
        have j2 : decide ((0 : Int) ≤ (j : Int)) = true := decide_eq_true (by omega)
        have cr := hown.cell1 j 0 _ (by rw [List.getElem?_replicate, if_pos hjk]) rfl
        have fr := hown.free j
        have HO2 := Lib.hid (hown.set1 j 1 (.int .i64 1) hjk rfl)
        have HN2 := Lib.hid ((N2.trans hN).setCell (p := ⟨g, j, none⟩) (by show w.heap.size ≤ g; omega) (.int .i64 1))
        clear hown
        go_wp2_with fail
        go_ret2
        exact ⟨HN2.out, g, by rw [HWS.out]; rfl, by omega, by rw [HWS.out]; show Rd _ 1 encI _ k ((List.replicate l.length 0).set j 1); rw [HL.out]; exact HO2.out.rd⟩
      | none =>
        simp only [show optI none = -1 from rfl]
        have HOW := Lib.hid hown
        clear hown
        go_wp2_with fail
        have hB0 : Below g w2 wr := hN.below (by rw [← HGE.out]; exact HG2.out)
        go_loopw [10, 53] (fun sm i wx => ∃ (u : Nat) (xs : List Int), u ≤ k ∧ i = .int .i64 (u : Int) ∧ sm = .int .i64 (sumTo l x y u) ∧ Sky.Own wx g 3 1 encI (some ⟨g, 0, none⟩) k k xs ∧ Hid (∀ j, j < u → xs[j]? = some (wAt l x y j)) ∧ Below g w2 wx) (fun _ i _ => k - (intOf i).toNat)
        case atStart => exact ⟨0, _, by omega, rfl, rfl, HOW.out, fun j hj => absurd hj (by omega), hB0⟩
        case round =>
          clear hB0
          obtain ⟨u, xs, hu, rfl, rfl, hown, HXS, hB⟩ := hrel
          have hN : New w wr := Below.trans N2 (Below.mono hB (by omega))
          by_cases huk : u < k
          · obtain ⟨b, o, s, rfl, hb, hx, hc⟩ := (HR.out.keep hN).at_ huk
            have g0 := hc 0 _ rfl
            have g1 := hc 1 _ rfl
            have g2 := hc 2 _ rfl
            have g3 := hc 3 _ rfl
            have g4 := hc 4 _ rfl
            have g5 := hc 5 _ rfl
            simp only [Nat.add_zero] at g0
            have HAG := Lib.hid (show prodTo l x y u 0 = 10 - s.a by
              show 10 - ageAt l u = _
              unfold ageAt; rw [hx])
            have hsa := (HS.out s (List.mem_of_getElem? hx)).a
            have i0' : (0 : Int) ≤ (u : Int) := by omega
            have i1 : (u : Int) < (k : Int) := by omega
            clear hx hc
            have hxl := hown.len
            obtain ⟨x0, hx0⟩ : ∃ x0, xs[u]? = some x0 := ⟨_, List.getElem?_eq_getElem (by omega)⟩
            have cr := hown.cell1 u x0 _ hx0 rfl
            have fr := hown.free u
            have lg : g < wr.heap.size := own_lt hown
            have HO2 := Lib.hid ((hown.set1 u (10 - s.a) (.int .i64 (10 - s.a)) huk rfl).alloc (.cells (encSt s).toArray 99))
            have HB2 := Lib.hid ((hB.setCell (p := ⟨g, u, none⟩) (Nat.le_refl _) (.int .i64 (10 - s.a))).alloc (by simp; rw [← HGE.out]; exact Nat.le_trans HG2.out hB.size) (.cells (encSt s).toArray 99))
            have HXS2 := Lib.hid (show ∀ j, j < u → (xs.set u (10 - s.a))[j]? = some (wAt l x y j) from fun j hj => by rw [List.getElem?_set_ne (by omega)]; exact HXS.out j hj)
            have HXU := Lib.hid (show (xs.set u (10 - s.a))[u]? = some (prodTo l x y u 0) by rw [List.getElem?_set_self (by omega), HAG.out])
            clear hown hB hN hx0
            go_wp2_with fail
            go_loopw [66] (fun i wz => ∃ (m : Nat) (ys : List Int), m ≤ k ∧ i = .int .i64 (m : Int) ∧ Sky.Own wz g 3 1 encI (some ⟨g, 0, none⟩) k k ys ∧ Hid ((∀ j, j < u → ys[j]? = some (wAt l x y j)) ∧ ys[u]? = some (prodTo l x y u m)) ∧ Below g w2 wz) (fun i _ => k - (intOf i).toNat)
            case atStart => exact ⟨0, _, by omega, rfl, HO2.out, ⟨HXS2.out, HXU.out⟩, HB2.out⟩
            case round =>
              clear HO2 HB2 HXS2 HXU g0 g1 g2 g3 g4 g5 cr fr lg
              obtain ⟨m, ys, hm, rfl, hown, HYS, hB⟩ := hrel
              have hN : New w wr := Below.trans N2 (Below.mono hB (by omega))
              by_cases hmk : m < k
              · obtain ⟨b2, o2, t, hA2, hb2, ht, hct⟩ := (HR.out.keep hN).at_ hmk
                injection hA2 with hA2
                injection hA2 with ea eb ec
                subst ea eb
                have t0 := hct 0 _ rfl
                have t1 := hct 1 _ rfl
                have t2 := hct 2 _ rfl
                have t3 := hct 3 _ rfl
                have t4 := hct 4 _ rfl
                have t5 := hct 5 _ rfl
                simp only [Nat.add_zero] at t0
                have HTO := Lib.hid (HS.out t (List.mem_of_getElem? ht))
                have HSQ := Lib.hid (show sqAt l x y m = sqS t.x t.y x y by unfold sqAt; rw [ht])
                have j0 : (0 : Int) ≤ (m : Int) := by omega
                have j1 : (m : Int) < (k : Int) := by omega
                clear ht hct
                have N1 := hN.alloc (.cells (encSt t).toArray 99)
                have B1 := hB.alloc (by rw [← HGE.out]; exact Nat.le_trans HG2.out hB.size) (.cells (encSt t).toArray 99)
                have hown1 := hown.alloc (.cells (encSt t).toArray 99)
                by_cases hmu : m = u
                · have HPR := Lib.hid (show prodTo l x y u (m + 1) = prodTo l x y u m by show (if m = u then _ else _) = _; rw [if_pos hmu])
                  have dm : ((m : Int) != (u : Int)) = false := by simp; omega
                  clear hmu
                  go_wp2_with fail
                  go_roundw
                  case rel => exact ⟨m + 1, ys, by omega, by go_num, hown1, by unfold Hid; rw [HPR.out]; exact HYS.out, B1⟩
                  case measure => simp [intOf]; omega
                · have HPR := Lib.hid (show prodTo l x y u (m + 1) = prodTo l x y u m * sqAt l x y m by show (if m = u then _ else _) = _; rw [if_neg hmu])
                  have dm : ((m : Int) != (u : Int)) = true := by simp; omega
                  clear hmu
                  have c3 := (HC2.out.below hB (by omega)).alloc (.cells (encSt t).toArray 99)
                  have b1 := Bx.mk wr 99 (encSt t).toArray
                  have hpb := prod_bd (l := l) HS.out HP.out (i := u) (m := m + 1) (by omega) (by omega)
                  rw [HPR.out] at hpb
                  obtain ⟨v, hv⟩ : ∃ v, sqAt l x y m = v := ⟨_, rfl⟩
                  obtain ⟨pr, hpr⟩ : ∃ v, prodTo l x y u m = v := ⟨_, rfl⟩
                  rw [hv] at HSQ HPR hpb
                  rw [hpr] at HYS HPR hpb
                  have cr := hown1.cell1 u pr _ HYS.out.2 rfl
                  have fr := hown1.free u
                  clear hv hpr
                  have hyl := hown.len
                  obtain ⟨W1, hW1⟩ : ∃ W1, wr.alloc (.cells (encSt t).toArray 99) = W1 := ⟨_, rfl⟩
                  have hW1' : wr.alloc (.cells #[.string t.n, .int .i64 t.x, .int .i64 t.y, .int .i64 t.lo, .int .i64 t.hi, .int .i64 t.a] 99) = W1 := hW1
                  rw [hW1] at b1 N1 B1 hown1 c3 cr fr
                  have k0 : W1.cell? ⟨w.heap.size, 0, none⟩ = some (.int .i64 x) := c3.cell 0
                  have k1 : W1.cell? ⟨w.heap.size, 1, none⟩ = some (.int .i64 y) := c3.cell 1
                  have l3 := c3.lt
                  have lg : g < W1.heap.size := own_lt hown1
                  have d1 : W1.cell? ⟨wr.heap.size, 1, none⟩ = some (.int .i64 t.x) := b1.cell 1
                  have d2 : W1.cell? ⟨wr.heap.size, 2, none⟩ = some (.int .i64 t.y) := b1.cell 2
                  have ld := b1.lt
                  clear b1 c3 hW1 hown hB hN
                  go_wp2_with fail
                  try rw [hW1']
                  (refine wp_region_tail 9 (by kernel_rfl) (by kernel_rfl) ?_; simp only [List.take_succ_cons, List.take_zero, List.drop_succ_cons, List.drop_zero]; (repeat (go_big_quiet_step (((go_at_call 106; with_reducible exact quiet_new (cSquare_st HSQ.out.symm _ HTO.out HP.out)))))); refine wpQuiet_nil ?_)
                  intro w3 n3
                  have hown3 := hown1.keep n3
                  have cr3 := hown3.cell1 u pr _ HYS.out.2 rfl
                  have fr3 := hown3.free u
                  have HO4 := Lib.hid (hown3.set1 u (pr * v) (.int .i64 (pr * v)) huk rfl)
                  have HB4 := Lib.hid ((Below.trans B1 (n3.below (Nat.le_of_lt lg))).setCell (p := ⟨g, u, none⟩) (Nat.le_refl _) (.int .i64 (pr * v)))
                  have HY4 := Lib.hid (show (∀ j, j < u → (ys.set u (pr * v))[j]? = some (wAt l x y j)) ∧ (ys.set u (pr * v))[u]? = some (prodTo l x y u (m + 1)) from
                    ⟨fun j hj => by rw [List.getElem?_set_ne (by omega)]; exact HYS.out.1 j hj, by rw [List.getElem?_set_self (by omega), HPR.out]⟩)
                  clear hown3 hown1
                  go_wp2_with fail
                  go_roundw
                  case rel => exact ⟨m + 1, _, by omega, by go_num, HO4.out, HY4.out, HB4.out⟩
                  case measure => simp [intOf]; omega
              · obtain rfl : m = k := by omega
                have HWV := Lib.hid (show prodTo l x y u m = wAt l x y u by unfold wAt; rw [HL.out])
                have HSS := Lib.hid (show sumTo l x y (u + 1) = sumTo l x y u + wAt l x y u from rfl)
                have hsb := sumTo_bd HS.out HP.out (show l.length ≤ 5 by rw [HL.out]; omega) (u + 1) (by omega)
                have hsc := sumTo_bd HS.out HP.out (show l.length ≤ 5 by rw [HL.out]; omega) u (by omega)
                rw [HSS.out] at hsb
                rw [HWV.out] at HYS
                obtain ⟨wv, hwv⟩ : ∃ v, wAt l x y u = v := ⟨_, rfl⟩
                obtain ⟨sv, hsv⟩ : ∃ v, sumTo l x y u = v := ⟨_, rfl⟩
                have HW2 := Lib.hid hwv
                rw [hwv] at HSS hsb HYS
                rw [hsv] at HSS hsb hsc ⊢
                clear hwv hsv HWV
                have cr := hown.cell1 u wv _ HYS.out.2 rfl
                have HOZ := Lib.hid hown
                clear hown
                go_wp2_with fail
                go_roundw
                case rel => exact ⟨u + 1, ys, by omega, by go_num, by rw [HSS.out], HOZ.out, fun j hj => by
                  rcases Nat.lt_or_ge j u with h | h
                  · exact HYS.out.1 j h
                  · obtain rfl : j = u := by omega
                    rw [HYS.out.2, HW2.out], hB⟩
                case measure => simp [intOf]; omega
          · obtain rfl : u = k := by omega
            have HFX := Lib.hid (list_of hown.len HXS.out)
            have HOZ := Lib.hid hown
            clear hown
            go_wp2_with fail
            go_ret2
            exact ⟨hN, g, by rw [HWS.out]; show _ = Ending.returned (.tuple #[_, .int .i64 (sumTo l x y l.length)]); rw [HL.out]; rfl, by omega, by
              rw [HWS.out]
              show Rd _ 1 encI _ u ((List.range l.length).map (wAt l x y))
              rw [HL.out, ← HFX.out]
              exact HOZ.out.rd⟩
end Go.Proofs.Ytaogolnoiffgiaa

namespace Go.Proofs.Ytaogolnoiffgiaa
open Go.RowKit Go.Sky Go.Sky.Ch

theorem eql_vec_d (n : Nat) (a b c d e f : Int) (W : World) : (Op.equalIn (n + 2) 59 (.agg #[.int .i64 a, .int .i64 b, .int .i64 c]) (.agg #[.int .i64 d, .int .i64 e, .int .i64 f])).run Try.prog W = .ok (a == d && (b == e && c == f)) W := by
  have u := Try.underlying59
  have u3 := Try.underlying3
  have z3 := Try.sizeOf3
  have a3 := Try.isAgg3
  rw [Op.equalIn]
  by_cases h1 : a = d <;> by_cases h2 : b = e <;> by_cases h3 : c = f
  all_goals
    simp [run_underlying u, part, go_sem, h1, h2, h3, a3, u3]
theorem guard_vec : (Try.prog).eqGuardType (Try.prog).depth 59 = false := by kernel_rfl
theorem neq_vec (a b c : Int) (W : World) : (binOp .neq 59 (.agg #[.int .i64 a, .int .i64 b, .int .i64 c]) (.agg #[.int .i64 0, .int .i64 0, .int .i64 0])).run Try.prog W = .ok (.bool (!(a == 0 && (b == 0 && c == 0)))) W := by
  have h := eql_vec_d 9998 a b c 0 0 0
  simp only [binOp]
  simp [Op.equal, Op.maxDepth, h, go_sem]

set_option maxRecDepth 100000 in
set_option maxHeartbeats 4000000 in
theorem cVectorErr_any (v : Ve) (w : World) :
    Calls Try.prog 94 #[.agg #[.int .i64 v.x, .int .i64 v.y, .int .i64 v.z]] w fun e w' => e = .returned (.int .i64 (vecE v)) ∧ New w w' := by
  obtain ⟨x, y, z⟩ := v
  dsimp only
  have N0 := (New.refl w).alloc (.cells #[.int .i64 x, .int .i64 y, .int .i64 z] 59)
  have b0 := Bx.mk w 59 #[.int .i64 x, .int .i64 y, .int .i64 z]
  have HV := Lib.hid (show vecE ⟨x, y, z⟩ = firstE [errU (sizedI x 1000 && sizedI y 1000 && sizedI z 1000) 2, errU (!(x == 0 && (y == 0 && z == 0))) 11] from rfl)
  obtain ⟨q1, h1⟩ : ∃ v, sizedI x 1000 = v := ⟨_, rfl⟩
  obtain ⟨q2, h2⟩ : ∃ v, sizedI y 1000 = v := ⟨_, rfl⟩
  obtain ⟨q3, h3⟩ : ∃ v, sizedI z 1000 = v := ⟨_, rfl⟩
  obtain ⟨q4, h4⟩ : ∃ v, (!(x == 0 && (y == 0 && z == 0))) = v := ⟨_, rfl⟩
  rw [h1, h2, h3, h4] at HV
  have hneq : ∀ W, (binOp .neq 59 (.agg #[.int .i64 x, .int .i64 y, .int .i64 z]) (.agg #[.int .i64 0, .int .i64 0, .int .i64 0])).run Try.prog W = .ok (.bool q4) W := fun W => by rw [neq_vec, h4]
  have H1 := Lib.hid h1
  have H2 := Lib.hid h2
  have H3 := Lib.hid h3
  clear h1 h2 h3 h4
  obtain ⟨W2, hW2⟩ : ∃ W2, w.alloc (.cells #[.int .i64 x, .int .i64 y, .int .i64 z] 59) = W2 := ⟨_, rfl⟩
  rw [hW2] at b0 N0
  have c0 : W2.cell? ⟨w.heap.size, 0, none⟩ = some (.int .i64 x) := b0.cell 0
  have c1 : W2.cell? ⟨w.heap.size, 1, none⟩ = some (.int .i64 y) := b0.cell 1
  have c2 : W2.cell? ⟨w.heap.size, 2, none⟩ = some (.int .i64 z) := b0.cell 2
  have l0 := b0.lt
  cases q1 <;> cases q2
  all_goals
    go_enter Try.func94, Try.ntmps94
    go_wp2_with (go_at_call 84; refine (cIsSized_any _ _ _ (by omega) (by omega)).mono ?_; rintro e w' ⟨rfl, rfl⟩; first | rw [H1.out] | rw [H2.out] | rw [H3.out])
    (refine wp_region_tail 6 (by kernel_rfl) (by kernel_rfl) ?_; simp only [List.take_succ_cons, List.take_zero, List.drop_succ_cons, List.drop_zero]; (repeat (go_big_quiet_step ((first | (go_at_call 81; exact quiet_same (cUnless_any _ _ _)))))); refine wpQuiet_nil ?_)
    intro w3 n3
    go_wp2_with (go_at_call 80; refine (cFirst_any _ 2 2 [_, _] _ (by omega) rfl (cells_new _ _ _ _ (by simp) _ rfl)).mono ?_; rintro e w' ⟨rfl, rfl⟩)
    go_ret
    exact ⟨by rw [HV.out]; rfl, (N0.trans n3).alloc _⟩
theorem cVectorErr_is {v : Ve} {r : Int} (h : vecE v = r) (w : World) :
    Calls Try.prog 94 #[.agg #[.int .i64 v.x, .int .i64 v.y, .int .i64 v.z]] w fun e w' => e = .returned (.int .i64 r) ∧ New w w' := h ▸ cVectorErr_any v w

theorem mul_bd3 {a b : Int} (ha : -1000 ≤ a ∧ a ≤ 1000) (hb : -1000 ≤ b ∧ b ≤ 1000) : -1000000 ≤ a * b ∧ a * b ≤ 1000000 := by
  have h1 : (a * b).natAbs ≤ 1000 * 1000 := by rw [Int.natAbs_mul]; exact Nat.mul_le_mul (by omega) (by omega)
  omega
set_option maxRecDepth 100000 in
set_option maxHeartbeats 4000000 in
theorem cLitAt_any (a b : Ve) (t : Int) (w : World) :
    Calls Try.prog 32 #[.agg #[.int .i64 a.x, .int .i64 a.y, .int .i64 a.z], .agg #[.int .i64 b.x, .int .i64 b.y, .int .i64 b.z], .int .i64 t] w fun e w' => New w w' ∧
      ((∃ r, litE a b t = r ∧ r ≠ 0 ∧ e = .returned (.tuple #[.int .i64 0, .int .i64 r])) ∨ (litE a b t = 0 ∧ e = .returned (.tuple #[.int .i64 (litS a b t), .int .i64 0]))) := by
  have N0 := ((New.refl w).alloc (.cells #[.int .i64 a.x, .int .i64 a.y, .int .i64 a.z] 59)).alloc (.cells #[.int .i64 b.x, .int .i64 b.y, .int .i64 b.z] 59)
  have b0 := (Bx.mk w 59 #[.int .i64 a.x, .int .i64 a.y, .int .i64 a.z]).alloc (.cells #[.int .i64 b.x, .int .i64 b.y, .int .i64 b.z] 59)
  have b1 := Bx.mk_at (w.alloc (.cells #[.int .i64 a.x, .int .i64 a.y, .int .i64 a.z] 59)) 59 #[.int .i64 b.x, .int .i64 b.y, .int .i64 b.z] (w.heap.size + 1) (by simp)
  obtain ⟨W2, hW2⟩ : ∃ W2, (w.alloc (.cells #[.int .i64 a.x, .int .i64 a.y, .int .i64 a.z] 59)).alloc (.cells #[.int .i64 b.x, .int .i64 b.y, .int .i64 b.z] 59) = W2 := ⟨_, rfl⟩
  rw [hW2] at b0 b1 N0
  have c0 : W2.cell? ⟨w.heap.size, 0, none⟩ = some (.int .i64 a.x) := b0.cell 0
  have c1 : W2.cell? ⟨w.heap.size, 1, none⟩ = some (.int .i64 a.y) := b0.cell 1
  have c2 : W2.cell? ⟨w.heap.size, 2, none⟩ = some (.int .i64 a.z) := b0.cell 2
  have d0 : W2.cell? ⟨w.heap.size + 1, 0, none⟩ = some (.int .i64 b.x) := b1.cell 0
  have d1 : W2.cell? ⟨w.heap.size + 1, 1, none⟩ = some (.int .i64 b.y) := b1.cell 1
  have d2 : W2.cell? ⟨w.heap.size + 1, 2, none⟩ = some (.int .i64 b.z) := b1.cell 2
  have l0 := b0.lt
  have l1 := b1.lt
  obtain ⟨q, hq⟩ : ∃ v, litE a b t = v := ⟨_, rfl⟩
  have HV := Lib.hid (show firstE [vecE a, vecE b, errU (inR t 0 4000000) 2] = q from hq)
  obtain ⟨q1, h1⟩ : ∃ v, vecE a = v := ⟨_, rfl⟩
  obtain ⟨q2, h2⟩ : ∃ v, vecE b = v := ⟨_, rfl⟩
  obtain ⟨q3, h3⟩ : ∃ v, inR t 0 4000000 = v := ⟨_, rfl⟩
  rw [h1, h2, h3] at HV
  have H1 := Lib.hid h1
  have H2 := Lib.hid h2
  have H3 := Lib.hid h3
  have HB0 := Lib.hid b0
  have HB1 := Lib.hid b1
  have HQ := Lib.hid hq
  clear h1 h2 h3 hq b0 b1
  go_enter Try.func32, Try.ntmps32
  go_wp2_with fail
  try rw [hW2]
  clear hW2
  (refine wp_region_tail 7 (by kernel_rfl) (by kernel_rfl) ?_; simp only [List.take_succ_cons, List.take_zero, List.drop_succ_cons, List.drop_zero]; (repeat (go_big_quiet_step ((first | (go_at_call 94; with_reducible exact quiet_new (cVectorErr_is H1.out _)) | (go_at_call 94; with_reducible exact quiet_new (cVectorErr_is H2.out _)) | (go_at_call 95; with_reducible exact quiet_same (cWithin_is H3.out _)) | (go_at_call 81; exact quiet_same (cUnless_any _ _ _)))))); refine wpQuiet_nil ?_)
  intro w3 n3
  by_cases hq0 : q = 0
  · subst hq0
    have hz := firstE_zero HQ.out
    obtain ⟨ax, ay, az, _⟩ := vecE_zero (hz (vecE a) (by simp))
    obtain ⟨bx, by', bz, _⟩ := vecE_zero (hz (vecE b) (by simp))
    have ht := inR_iff.1 (errU_nil (by decide) (hz (errU (inR t 0 4000000) 2) (by simp)))
    have m1 := mul_bd3 ax bx
    have m2 := mul_bd3 ay by'
    have m3 := mul_bd3 az bz
    have HD := Lib.hid (show dotV a b = a.x * b.x + a.y * b.y + a.z * b.z from rfl)
    have HL := Lib.hid (show litS a b t = if t < dotV a b then 2 else if dotV a b < -t then 0 else 1 from rfl)
    have hp1 : -3000000 ≤ a.x * b.x + a.y * b.y + a.z * b.z ∧ a.x * b.x + a.y * b.y + a.z * b.z ≤ 3000000 := by omega
    have B3 := HB0.out.keep n3
    have B4 := HB1.out.keep n3
    have g0 := B3.cell 0
    have g1 := B3.cell 1
    have g2 := B3.cell 2
    have k0 := B4.cell 0
    have k1 := B4.cell 1
    have k2 := B4.cell 2
    have l3 := B3.lt
    have l4 := B4.lt
    simp only [List.getElem?_toArray, List.getElem?_cons_zero, List.getElem?_cons_succ] at g0 g1 g2 k0 k1 k2
    rw [HD.out] at HL
    clear hz B3 B4 c0 c1 c2 d0 d1 d2
    by_cases hA : t < a.x * b.x + a.y * b.y + a.z * b.z
    · have dA : decide (t < a.x * b.x + a.y * b.y + a.z * b.z) = true := decide_eq_true hA
      have HL2 := Lib.hid (HL.out.trans (if_pos hA))
      clear hA
      go_wp2_with (go_at_call 80; refine (cFirst_any _ 3 3 [_, _, _] _ (by omega) rfl (cells_new _ _ _ _ (by simp) _ rfl)).mono ?_; rintro e w' ⟨rfl, rfl⟩; rw [HV.out])
      go_ret2
      exact ⟨(N0.trans n3).alloc _, .inr ⟨HQ.out, by rw [HL2.out]; rfl⟩⟩
    · have dA : decide (t < a.x * b.x + a.y * b.y + a.z * b.z) = false := decide_eq_false hA
      by_cases hB : a.x * b.x + a.y * b.y + a.z * b.z < -t
      · have dB : decide (a.x * b.x + a.y * b.y + a.z * b.z < -t) = true := decide_eq_true hB
        have HL2 := Lib.hid (HL.out.trans ((if_neg hA).trans (if_pos hB)))
        clear hA hB
        go_wp2_with (go_at_call 80; refine (cFirst_any _ 3 3 [_, _, _] _ (by omega) rfl (cells_new _ _ _ _ (by simp) _ rfl)).mono ?_; rintro e w' ⟨rfl, rfl⟩; rw [HV.out])
        go_ret2
        exact ⟨(N0.trans n3).alloc _, .inr ⟨HQ.out, by rw [HL2.out]; rfl⟩⟩
      · have dB : decide (a.x * b.x + a.y * b.y + a.z * b.z < -t) = false := decide_eq_false hB
        have HL2 := Lib.hid (HL.out.trans ((if_neg hA).trans (if_neg hB)))
        clear hA hB
        go_wp2_with (go_at_call 80; refine (cFirst_any _ 3 3 [_, _, _] _ (by omega) rfl (cells_new _ _ _ _ (by simp) _ rfl)).mono ?_; rintro e w' ⟨rfl, rfl⟩; rw [HV.out])
        go_ret2
        exact ⟨(N0.trans n3).alloc _, .inr ⟨HQ.out, by rw [HL2.out]; rfl⟩⟩
  · have bq : (q != 0) = true := by simpa using hq0
    go_wp2_with (go_at_call 80; refine (cFirst_any _ 3 3 [_, _, _] _ (by omega) rfl (cells_new _ _ _ _ (by simp) _ rfl)).mono ?_; rintro e w' ⟨rfl, rfl⟩; rw [HV.out])
    go_ret2
    exact ⟨(N0.trans n3).alloc _, .inl ⟨q, HQ.out, hq0, rfl⟩⟩
end Go.Proofs.Ytaogolnoiffgiaa
