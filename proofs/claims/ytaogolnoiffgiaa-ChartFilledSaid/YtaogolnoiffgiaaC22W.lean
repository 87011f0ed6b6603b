/- Contracts: the step of a direction, sides compared.
   Contracts: grids checked, the region of a level.
   Contracts: lists of numbers copied and compared; grids in the reference; RegionOf. -/
import Derived.BigQuiet
import Derived.Deep.AppendLies
import Derived.Deep.Draws
import Derived.Deep.Quiet
import Derived.Deep.QuietTactic
import Derived.DeepKeys4
import Derived.Laws.BitsAllLaws
import Derived.Laws.Rows
import Derived.Lib.Hide
import Derived.MapKept
import Derived.Maps.Keyed
import Derived.OrdersIn
import Derived.OwnWalkIn
import Derived.RangeFuncCalls
import Derived.Shelf.RegionOpen
import Derived.Shelf.SlSortCmp.QuietGrown
import Derived.StillTail
import Derived.TacticsIn
import Derived.Test.YtaogolnoiffgiaaProg
import Derived.WalkArith
import Derived.WalkKit
import Derived.WalkLawsBesides
import Derived.WalkSpells
import Derived.Test.YtaogolnoiffgiaaC22F
import Derived.Test.YtaogolnoiffgiaaC22H
import Derived.Test.YtaogolnoiffgiaaC22I
import Derived.Test.YtaogolnoiffgiaaC22K
import Derived.Test.YtaogolnoiffgiaaC22R
import Derived.Test.YtaogolnoiffgiaaC22S

namespace Go.Proofs.Ytaogolnoiffgiaa
open Go.RowKit Go.Sky Go.Sky.Ch Go.Sort

def encSdV (s : Sd) : Value := .agg #[.int .i64 s.x, .int .i64 s.y, .int .i64 s.d]
theorem infoSd : (Try.prog.info? 152).map (fun i => (i.zero, i.size, i.bytes)) = some (some (.agg #[.int .i64 0, .int .i64 0, .int .i64 0]), 3, 24) := by kernel_rfl
theorem encSd_len (x : Sd) : (encSd x).length = 3 := rfl
theorem encSd_one (x : Sd) : ∀ u ∈ encSd x, u.oneCell' = true := by intro u hu; simp [encSd] at hu; rcases hu with rfl | rfl | rfl <;> rfl

set_option maxRecDepth 100000 in
set_option maxHeartbeats 4000000 in
theorem cMoved_any (x y d : Int) (w : World) (hx : -100000 ≤ x ∧ x ≤ 100000) (hy : -100000 ≤ y ∧ y ≤ 100000) (hd : 0 ≤ d ∧ d ≤ 3) :
    Calls Try.prog 133 #[.agg #[.int .i64 x, .int .i64 y], .int .i64 d] w fun e w' => e = .returned (.agg #[.int .i64 (x + dxS d), .int .i64 (y + dyS d)]) ∧ New w w' := by
  have N0 := (((New.refl w).alloc (.cells #[.int .i64 x, .int .i64 y] 73)).alloc (.cells #[.int .i64 0, .int .i64 0] 73)).alloc (.cells #[.int .i64 1, .int .i64 0, .int .i64 0, .int .i64 1, .int .i64 (-1), .int .i64 0, .int .i64 0, .int .i64 (-1)] 205)
  have b0 := ((Bx.mk w 73 #[.int .i64 x, .int .i64 y]).alloc (.cells #[.int .i64 0, .int .i64 0] 73)).alloc (.cells #[.int .i64 1, .int .i64 0, .int .i64 0, .int .i64 1, .int .i64 (-1), .int .i64 0, .int .i64 0, .int .i64 (-1)] 205)
  have c0 := (Bx.mk_at (w.alloc (.cells #[.int .i64 x, .int .i64 y] 73)) 73 #[.int .i64 0, .int .i64 0] (w.heap.size + 1) (by simp)).alloc (.cells #[.int .i64 1, .int .i64 0, .int .i64 0, .int .i64 1, .int .i64 (-1), .int .i64 0, .int .i64 0, .int .i64 (-1)] 205)
  have d0 := Bx.mk_at ((w.alloc (.cells #[.int .i64 x, .int .i64 y] 73)).alloc (.cells #[.int .i64 0, .int .i64 0] 73)) 205 #[.int .i64 1, .int .i64 0, .int .i64 0, .int .i64 1, .int .i64 (-1), .int .i64 0, .int .i64 0, .int .i64 (-1)] (w.heap.size + 1 + 1) (by simp)
  obtain ⟨W2, hW2⟩ : ∃ W2, (((w.alloc (.cells #[.int .i64 x, .int .i64 y] 73)).alloc (.cells #[.int .i64 0, .int .i64 0] 73)).alloc (.cells #[.int .i64 1, .int .i64 0, .int .i64 0, .int .i64 1, .int .i64 (-1), .int .i64 0, .int .i64 0, .int .i64 (-1)] 205)) = W2 := ⟨_, rfl⟩
  rw [hW2] at N0 b0 c0 d0
  have hge : w.heap.size ≤ w.heap.size + 1 := Nat.le_succ _
  have hall : d = 0 ∨ d = 1 ∨ d = 2 ∨ d = 3 := by omega
  have key : ∀ (ax ay : Int) (k : Nat), (k : Int) = d → k ≤ 3 → dxS d = ax → dyS d = ay → (-1 ≤ ax ∧ ax ≤ 1) → (-1 ≤ ay ∧ ay ≤ 1) →
      W2.cell? ⟨w.heap.size + 1 + 1, k * 2, none⟩ = some (.int .i64 ax) → W2.cell? ⟨w.heap.size + 1 + 1, k * 2 + 1, none⟩ = some (.int .i64 ay) →
      Calls Try.prog 133 #[.agg #[.int .i64 x, .int .i64 y], .int .i64 (k : Int)] w fun e w' => e = .returned (.agg #[.int .i64 (x + ax), .int .i64 (y + ay)]) ∧ New w w' := by
    intro ax ay k hk hk3 hax hay bx by' e0 e1
    clear hax hay hk hd hall
    have k0 : W2.cell? ⟨w.heap.size, 0, none⟩ = some (.int .i64 x) := b0.cell 0
    have k1 : W2.cell? ⟨w.heap.size, 1, none⟩ = some (.int .i64 y) := b0.cell 1
    have r0 : W2.cell? ⟨w.heap.size + 1, 0, none⟩ = some (.int .i64 0) := c0.cell 0
    have r1 : W2.cell? ⟨w.heap.size + 1, 1, none⟩ = some (.int .i64 0) := c0.cell 1
    have f0 := c0.free 0
    have f1 := c0.free 1
    have l0 := b0.lt
    have l1 := c0.lt
    have l2 := d0.lt
    have i0 : (0 : Int) ≤ (k : Int) := by omega
    have i1 : (k : Int) < 4 := by omega
    have ne1 : w.heap.size ≠ w.heap.size + 1 := by omega
    have ne2 : w.heap.size + 1 + 1 ≠ w.heap.size + 1 := by omega
    have HX := Lib.hid (((c0.set 0 (.int .i64 (x + ax))).set 1 (.int .i64 (y + ay))).drew)
    have HN := Lib.hid (((N0.setCell (p := ⟨w.heap.size + 1, 0, none⟩) hge (.int .i64 (x + ax))).setCell (p := ⟨w.heap.size + 1, 1, none⟩) hge (.int .i64 (y + ay))).drew)
    go_enter Try.func133, Try.ntmps133
    go_wp2_with fail
    try rw [hW2]
    go_region
    (try go_wp2_with fail)
    (try simp only [Exit.inBlock, Exit.then])
    refine bodyPost_ret (results_cell_row rfl _ _ (w.heap.size + 1) 73 #[.int .i64 (x + ax), .int .i64 (y + ay)] (0, 0) _ rfl HX.out Try.underlying73 rfl (by kernel_rfl)) rfl ?_
    exact ⟨rfl, HN.out⟩
  rcases hall with rfl | rfl | rfl | rfl
  · exact key 1 0 0 rfl (by omega) rfl rfl (by omega) (by omega) (d0.cell 0) (d0.cell 1)
  · exact key 0 1 1 rfl (by omega) rfl rfl (by omega) (by omega) (d0.cell 2) (d0.cell 3)
  · exact key (-1) 0 2 rfl (by omega) rfl rfl (by omega) (by omega) (d0.cell 4) (d0.cell 5)
  · exact key 0 (-1) 3 rfl (by omega) rfl rfl (by omega) (by omega) (d0.cell 6) (d0.cell 7)

theorem grow4 (W : World) (o1 o2 o3 o4 : Obj) : (((W.alloc o1).alloc o2).alloc o3).alloc o4 = grow (W.drewN 0) (#[o1] ++ #[o2] ++ #[o3] ++ #[o4]) := by
  simp only [alloc_eq_grow, grow_grow]
  rfl

set_option maxRecDepth 100000 in
set_option maxHeartbeats 2000000 in
theorem sdClos (x y : Sd) (W : World) :
    Calls Try.prog 135 #[.agg #[.int .i64 x.x, .int .i64 x.y, .int .i64 x.d], .agg #[.int .i64 y.x, .int .i64 y.y, .int .i64 y.d]] W fun e w' => e = .returned (.int .i64 (cmpSd x y)) ∧ ∃ q os', w' = grow (W.drewN q) os' := by
  have HV := Lib.hid (show cmpSd x y = lexC [x.y, x.x, x.d] [y.y, y.x, y.d] from rfl)
  go_enter Try.func135, Try.ntmps135
  go_wp2_with fail
  refine (compare_any _ _ 3 3 3 3 [x.y, x.x, x.d] [y.y, y.x, y.d] _ (by omega) (by omega) (by exact rd_bx ((Bx.mk_at _ _ _ _ (by simp)).alloc _) encI_len _ rfl 3 rfl) (by exact rd_bx (Bx.mk_at _ _ _ _ (by simp)) encI_len _ rfl 3 rfl)).mono ?_
  rintro e w' ⟨rfl, rfl⟩
  rw [← HV.out]
  go_wp2_with fail
  go_ret
  exact ⟨rfl, 0, _, grow4 _ _ _ _ _⟩

theorem okKey (s : Sd) (h : okSd s) : ∃ l, keyOf Try.prog 152 (encSdV s) = some l := by
  have u1 := Try.underlying152
  have u2 := Try.underlying73
  have u3 := Try.underlying3
  have c1 : (Try.prog).cellsOf 152 = 3 := by kernel_rfl
  have c2 : (Try.prog).cellsOf 73 = 2 := by kernel_rfl
  have c3 : (Try.prog).cellsOf 3 = 1 := by kernel_rfl
  have hk : (Try.prog).keyType 152 = true := by kernel_rfl
  have hf : (encSdV s).formed Try.prog 152 = true := by
    unfold encSdV
    simp [Value.formed, u1, c1]
  obtain ⟨n, hn⟩ : ∃ n, (Try.prog).types.size + 1 = n + 3 := ⟨(Try.prog).types.size - 2, by kernel_rfl⟩
  obtain ⟨hx, hy, hd⟩ := h
  have w1 : (Lit.int .i64 s.x).wf = true := WalkArith.wf_i64 ⟨by omega, by omega⟩
  have w2 : (Lit.int .i64 s.y).wf = true := WalkArith.wf_i64 ⟨by omega, by omega⟩
  have w3 : (Lit.int .i64 s.d).wf = true := WalkArith.wf_i64 ⟨by omega, by omega⟩
  refine Option.isSome_iff_exists.1 ?_
  unfold keyOf
  rw [u1]
  simp only [hk, hf, hn, Bool.and_self, if_true]
  unfold encSdV
  simp [Program.keyLits, u1, u2, u3, c1, c2, c3, Value.cells, w1, w2, w3]
  rw [if_pos (by decide)]
  rfl
theorem rowSd : (152 : TypeId) < (Try.prog).types.size := of_decide_eq_true (by kernel_rfl)
theorem laidSd : laidOutB Try.prog = true := by kernel_rfl
theorem wideSd : (match (Try.prog).underlying 152 with | some (.array _ _) | some (.struct _) => true | _ => false) = true := by kernel_rfl
theorem keySd : (Try.prog).keyTypeAt 3 152 = true := by kernel_rfl
set_option maxRecDepth 100000 in
theorem lawSd : Maps.Keyed Try.prog 152 := Maps.Keyed.of_law (deep_law_laid laidSd (m := 3) (by omega) rowSd keySd wideSd)
theorem mapSd : MapK Try.prog 150 okSd encSdV (fun b : Bool => Value.bool b) (.bool false) where
  desc := ⟨152, 4, Try.underlying150, lawSd, fun k h => okKey k h, fun w => by kernel_rfl⟩
  inj := fun a b h => by
    unfold encSdV at h
    injection h with h
    have h := congrArg Array.toList h
    injection h with h1 h
    injection h with h2 h
    injection h with h3 h
    injection h1 with _ h1
    injection h2 with _ h2
    injection h3 with _ h3
    obtain ⟨a1, a2, a3⟩ := a
    obtain ⟨b1, b2, b3⟩ := b
    simp only at h1 h2 h3
    subst h1 h2 h3
    rfl
end Go.Proofs.Ytaogolnoiffgiaa

namespace Go.Proofs.Ytaogolnoiffgiaa
open Go.RowKit Go.Sky Go.Sky.Ch

theorem oddG_any (n : Int) (w : World) : Calls Try.prog 83 #[.int .i64 n] w fun e w' => e = .returned (.bool (strangeG n)) ∧ New w w' := by
  go_enter Try.func83, Try.ntmps83
  go_wp2_with (go_at_call 84; refine (cIsSized_any _ _ _ (by omega) (by omega)).mono ?_; rintro e w' ⟨rfl, rfl⟩)
  go_ret
  exact ⟨rfl, New.refl _⟩
theorem oddG_is {xs : List Int} {v : Bool} (h : xs.any strangeG = v) (A : Option Addr) (n cap : Nat) (w : World) (hn : n ≤ 1000000) (hr : Rd w 1 encI A n xs) :
    Calls Try.prog 82 #[.slice A n cap, .func (.func 83) #[] #[]] w fun e w' => e = .returned (.bool v) ∧ New w w' := by
  subst h
  exact containsFuncI 83 #[] strangeG A n cap xs w hn hr (enters_go (f := 83) Try.func83 (by kernel_rfl) rfl) (fun x W _ => oddG_any x W)

set_option maxRecDepth 100000 in
set_option maxHeartbeats 4000000 in
theorem cCheckGrid_any (A : Option Addr) (n cap : Nat) (rows : List (List Int)) (w : World) (hn : n ≤ 1000000) (hrl : ∀ r ∈ rows, r.length ≤ 1000000) (hr : RowsL w 1 encI A n rows) :
    Calls Try.prog 22 #[.slice A n cap] w fun e w' => e = .returned (.tuple #[.int .i64 (gridS rows).1, .int .i64 (gridS rows).2]) ∧ New w w' := by
  have HL := Lib.hid hr.len
  have HR := Lib.hid hr
  have HRL := Lib.hid hrl
  clear hr hrl
  by_cases h0 : n = 0
  · subst h0
    have HV := Lib.hid (show gridS rows = (0, 10) by unfold gridS; rw [if_pos HL.out])
    go_enter Try.func22, Try.ntmps22
    go_wp2_with (first | (go_at_call 81; refine (cUnless_any _ _ _).mono ?_; rintro e w' ⟨rfl, rfl⟩; first | rw [show errU false 10 = 10 from rfl] | rw [show errU true 8 = 0 from rfl]) | (go_at_call 80; refine (cFirst_any _ 2 2 [_, _] _ (by omega) rfl (cells_new _ _ _ _ (by simp) _ rfl)).mono ?_; rintro e w' ⟨rfl, rfl⟩; rw [show firstE [10, 0] = 10 from rfl]))
    go_ret2
    exact ⟨by rw [HV.out]; rfl, (New.refl _).alloc _⟩
  have d0 : decide ((0 : Int) < (n : Int)) = true := decide_eq_true (by omega)
  have d0' : decide (0 < n) = true := decide_eq_true (by omega)
  by_cases h8 : 8 < n
  · have HV := Lib.hid (show gridS rows = (0, 8) by unfold gridS; rw [if_neg (by rw [HL.out]; exact h0), if_pos (by rw [HL.out]; exact h8)])
    have d1 : decide ((n : Int) ≤ 8) = false := decide_eq_false (by omega)
    go_enter Try.func22, Try.ntmps22
    go_wp2_with (first | (go_at_call 81; refine (cUnless_any _ _ _).mono ?_; rintro e w' ⟨rfl, rfl⟩; first | rw [show errU true 10 = 0 from rfl] | rw [show errU false 8 = 8 from rfl]) | (go_at_call 80; refine (cFirst_any _ 2 2 [_, _] _ (by omega) rfl (cells_new _ _ _ _ (by simp) _ rfl)).mono ?_; rintro e w' ⟨rfl, rfl⟩; rw [show firstE [0, 8] = 8 from rfl]))
    go_ret2
    exact ⟨by rw [HV.out]; rfl, (New.refl _).alloc _⟩
  have HV := Lib.hid (show gridS rows = fb (rowAtE rows) n by unfold gridS; rw [if_neg (by rw [HL.out]; exact h0), if_neg (by rw [HL.out]; exact h8), HL.out])
  have d1 : decide ((n : Int) ≤ 8) = true := decide_eq_true (by omega)
  go_enter Try.func22, Try.ntmps22
  go_wp2_with (first | (go_at_call 81; refine (cUnless_any _ _ _).mono ?_; rintro e w' ⟨rfl, rfl⟩; first | rw [show errU true 10 = 0 from rfl] | rw [show errU true 8 = 0 from rfl]) | (go_at_call 80; refine (cFirst_any _ 2 2 [_, _] _ (by omega) rfl (cells_new _ _ _ _ (by simp) _ rfl)).mono ?_; rintro e W0 ⟨rfl, hW0⟩; rw [show firstE [0, 0] = 0 from rfl]; have N0 : New w W0 := hW0 ▸ (New.refl w).alloc _; clear hW0))
  go_loopw [24] (fun i wr => ∃ k : Nat, k ≤ n ∧ i = .int .i64 (k : Int) ∧ Hid (∀ j, j < k → rowAtE rows j = 0) ∧ New w wr) (fun i _ => n - (intOf i).toNat)
  case atStart => exact ⟨0, by omega, rfl, fun j hj => absurd hj (by omega), N0⟩
  case round =>
    clear N0
    obtain ⟨k, hk, rfl, HF, hN⟩ := hrel
    by_cases hlt : k < n
    · obtain ⟨b, o, r, xs, rfl, hb, hx, hc, hrow⟩ := (HR.out.keep hN).at_ hlt
      obtain ⟨b', o', r0, xs0, hA, hb', hx0, hc0, hrow0⟩ := (HR.out.keep hN).at_ (show 0 < n by omega)
      injection hA with hA
      injection hA with ea eb ec
      subst ea eb
      simp only [Nat.add_zero] at hc0
      have HX := Lib.hid hx
      have hxl := hrow.len
      have hxl0 := hrow0.len
      have hrn : r.n ≤ 1000000 := by rw [← hxl]; exact HRL.out xs (List.mem_of_getElem? hx)
      have HL0 := Lib.hid (show len0 rows = r0.n by
        cases rows with
        | nil => simp at hx0
        | cons a t =>
          injection hx0 with hx0
          subst hx0
          exact hxl0)
      have HAT := Lib.hid (show rowAtE rows k = firstE [errU (decide (0 < r.n) && decide (r.n = r0.n)) 10, errU (decide (r.n ≤ 8)) 8, errU (!xs.any strangeG) 2] by
        unfold rowAtE
        rw [HX.out]
        unfold rowE
        dsimp only
        rw [HL0.out, hxl])
      have HRW := Lib.hid hrow.2
      have i0 : (0 : Int) ≤ (k : Int) := by omega
      have i1 : (k : Int) < (n : Int) := by omega
      have i2 : (0 : Int) < (n : Int) := by omega
      obtain ⟨q3, h3⟩ : ∃ v, xs.any strangeG = v := ⟨_, rfl⟩
      have H3 := Lib.hid h3
      rw [h3] at HAT
      clear hx hx0 hrow hrow0 hxl hxl0 h3
      obtain ⟨RA, rn, rc⟩ := r
      obtain ⟨RB, sn, sc⟩ := r0
      dsimp only at hc hc0 HRW HAT hrn
      obtain ⟨E, hE⟩ : ∃ v, rowAtE rows k = v := ⟨_, rfl⟩
      have HEE := Lib.hid hE
      rw [hE] at HAT
      clear hE
      go_wp2_with fail
      refine (oddG_is H3.out _ _ _ _ hrn HRW.out).mono ?_
      rintro e w3 ⟨rfl, n3⟩
      have hc3 := n3.cell hc
      have hc03 := n3.cell hc0
      have lb3 : b < w3.heap.size := Nat.lt_of_lt_of_le hb n3.size
      have N3 := hN.trans n3
      clear hc hc0 n3 HRW
      have hcs : ∃ v1 v2 : Bool, Hid (E = firstE [errU v1 10, errU v2 8, errU (!q3) 2]) ∧ decide ((rn : Int) ≤ 8) = v2 ∧ ((rn = 0 ∧ v1 = false) ∨ (0 < rn ∧ ((rn : Int) == (sn : Int)) = v1)) := by
        refine ⟨decide (0 < rn) && decide (rn = sn), decide (rn ≤ 8), HAT.out.symm ▸ rfl, by by_cases h : rn ≤ 8 <;> simp [h] <;> omega, ?_⟩
        rcases Nat.eq_zero_or_pos rn with h | h
        · exact .inl ⟨h, by rw [h]; rfl⟩
        · refine .inr ⟨h, ?_⟩
          rw [decide_eq_true h, Bool.true_and]
          by_cases h2 : rn = sn
          · rw [decide_eq_true h2]; simp [h2]
          · rw [decide_eq_false h2]; simp; omega
      obtain ⟨v1, v2, HE2, hv2, hc12⟩ := hcs
      rcases hc12 with ⟨h, rfl⟩ | ⟨h, hv1⟩
      · subst h
        go_wp2_with (first | (go_at_call 81; refine (cUnless_any _ _ _).mono ?_; rintro e w' ⟨rfl, rfl⟩) | (go_at_call 80; refine (cFirst_any _ 3 3 [_, _, _] _ (by omega) rfl (cells_new _ _ _ _ (by simp) _ rfl)).mono ?_; rintro e W4 ⟨rfl, hW4⟩))
        have HE10 := Lib.hid (show E = firstE [errU false 10, errU true 8, errU (!q3) 2] by rw [HE2.out, ← hv2]; rfl)
        have HB := Lib.hid (show fb (rowAtE rows) n = ((k : Int), E) by
          rw [fb_hit hlt HF.out (by rw [HEE.out, HE10.out]; show (10 : Int) ≠ 0; decide), HEE.out])
        go_ret2
        exact ⟨by rw [HV.out, HB.out, HE10.out]; rfl, hW4 ▸ N3.alloc _⟩
      · have dp : decide ((0 : Int) < (rn : Int)) = true := decide_eq_true (by omega)
        have dp' : decide (0 < rn) = true := decide_eq_true h
        by_cases hE0 : E = 0
        · have HE3 := Lib.hid (show firstE [errU v1 10, errU v2 8, errU (!q3) 2] = 0 by rw [← HE2.out]; exact hE0)
          have HZ := Lib.hid (HEE.out.trans hE0)
          clear hE0
          go_wp2_with (first | (go_at_call 81; refine (cUnless_any _ _ _).mono ?_; rintro e w' ⟨rfl, rfl⟩) | (go_at_call 80; refine (cFirst_any _ 3 3 [_, _, _] _ (by omega) rfl (cells_new _ _ _ _ (by simp) _ rfl)).mono ?_; rintro e W4 ⟨rfl, hW4⟩; rw [HE3.out]; have N4 : New w W4 := hW4 ▸ N3.alloc _; clear hW4))
          go_roundw
          case rel => exact ⟨k + 1, by omega, by go_num, fun j hj => by
            rcases Nat.lt_or_ge j k with h | h
            · exact HF.out j h
            · obtain rfl : j = k := by omega
              exact HZ.out, N4⟩
          case measure => simp [intOf]; omega
        · have bE : (E != 0) = true := by simpa using hE0
          have HB := Lib.hid (show fb (rowAtE rows) n = ((k : Int), E) by
            rw [fb_hit hlt HF.out (by rw [HEE.out]; exact hE0), HEE.out])
          clear hE0
          go_wp2_with (first | (go_at_call 81; refine (cUnless_any _ _ _).mono ?_; rintro e w' ⟨rfl, rfl⟩) | (go_at_call 80; refine (cFirst_any _ 3 3 [_, _, _] _ (by omega) rfl (cells_new _ _ _ _ (by simp) _ rfl)).mono ?_; rintro e W4 ⟨rfl, hW4⟩; rw [← HE2.out]; have N4 : New w W4 := hW4 ▸ N3.alloc _; clear hW4))
          go_ret2
          exact ⟨by rw [HV.out, HB.out]; rfl, N4⟩
    · obtain rfl : k = n := by omega
      have HB := Lib.hid (fb_none HF.out)
      go_wp2_with fail
      go_ret2
      exact ⟨by rw [HV.out, HB.out]; rfl, hN⟩

theorem cCheckGrid_is {rows : List (List Int)} {v : Int × Int} (h : gridS rows = v) (A : Option Addr) (n cap : Nat) (w : World) (hn : n ≤ 1000000) (hrl : ∀ r ∈ rows, r.length ≤ 1000000) (hr : RowsL w 1 encI A n rows) :
    Calls Try.prog 22 #[.slice A n cap] w fun e w' => e = .returned (.tuple #[.int .i64 v.1, .int .i64 v.2]) ∧ New w w' := h ▸ cCheckGrid_any A n cap rows w hn hrl hr

set_option maxRecDepth 100000 in
theorem cOpenGrid_any (A : Option Addr) (n cap : Nat) (rows : List (List Int)) (level : Int) (w : World) (hn : n ≤ 1000000) (hrl : ∀ r ∈ rows, r.length ≤ 1000000) (hr : RowsL w 1 encI A n rows) :
    Calls Try.prog 85 #[.slice A n cap, .int .i64 level] w fun e w' => e = .returned (.int .i64 (openE rows level)) ∧ New w w' := by
  have HR := Lib.hid hr
  have HRL := Lib.hid hrl
  clear hr hrl
  have HV := Lib.hid (show firstE [(gridS rows).2, errU (sizedI level 10000) 2] = openE rows level from rfl)
  obtain ⟨⟨g1, g2⟩, hg⟩ : ∃ v, gridS rows = v := ⟨_, rfl⟩
  have HG := Lib.hid hg
  rw [hg] at HV
  clear hg
  go_enter Try.func85, Try.ntmps85
  go_wp2_with fail
  refine (cCheckGrid_is HG.out A n cap _ hn HRL.out HR.out).mono ?_
  rintro e w1 ⟨rfl, n1⟩
  go_wp2_with (first | (go_at_call 84; refine (cIsSized_any _ _ _ (by omega) (by omega)).mono ?_; rintro e w' ⟨rfl, rfl⟩) | (go_at_call 81; refine (cUnless_any _ _ _).mono ?_; rintro e w' ⟨rfl, rfl⟩) | (go_at_call 80; refine (cFirst_any _ 2 2 [_, _] _ (by omega) rfl (cells_new _ _ _ _ (by simp) _ rfl)).mono ?_; rintro e w' ⟨rfl, rfl⟩; rw [HV.out]))
  go_ret
  exact ⟨rfl, n1.alloc _⟩
theorem cOpenGrid_is {rows : List (List Int)} {level v : Int} (h : openE rows level = v) (A : Option Addr) (n cap : Nat) (w : World) (hn : n ≤ 1000000) (hrl : ∀ r ∈ rows, r.length ≤ 1000000) (hr : RowsL w 1 encI A n rows) :
    Calls Try.prog 85 #[.slice A n cap, .int .i64 level] w fun e w' => e = .returned (.int .i64 v) ∧ New w w' := h ▸ cOpenGrid_any A n cap rows level w hn hrl hr

theorem infoRowI : (Try.prog.info? 22).map (fun i => (i.zero, i.size, i.bytes)) = some (some (.slice none 0 0), 1, 24) := by kernel_rfl
theorem regR_step {level : Int} {row : List Int} {k : Nat} {x : Int} (h : row[k]? = some x) : regR level (row.take (k + 1)) = regR level (row.take k) ++ [if level ≤ x then 1 else 0] := by
  unfold regR
  rw [take_snoc row k x h, List.map_append]
  rfl

set_option maxRecDepth 100000 in
set_option maxHeartbeats 4000000 in
theorem cRegion_any (A : Option Addr) (n cap : Nat) (rows : List (List Int)) (level : Int) (w : World) (hn : n ≤ 1000) (hrl : ∀ r ∈ rows, r.length ≤ 1000) (hr : RowsL w 1 encI A n rows) :
    Calls Try.prog 86 #[.slice A n cap, .int .i64 level] w fun e w' => New w w' ∧ ∃ C c, e = .returned (.slice C n c) ∧ n ≤ c ∧ RowsL w' 1 encI C n (regS rows level) := by
  obtain ⟨i0, hi, hz0, hz1, hz2⟩ := info_parts infoInt
  obtain ⟨i1, hi1, hy0, hy1, hy2⟩ := info_parts infoRowI
  have HL := Lib.hid hr.len
  have HR := Lib.hid hr
  have HRL := Lib.hid hrl
  clear hr hrl
  go_enter Try.func86, Try.ntmps86
  go_wp2_with fail
  go_loopw [5, 13] (fun out i wr => ∃ (k c : Nat) (C : Option Addr) (rv : List SlV), k ≤ n ∧ i = .int .i64 (k : Int) ∧ out = .slice C k c ∧ Hid (OwnRows wr w.heap.size 3 22 1 encI C k c rv (regS (rows.take k) level)) ∧ New w wr) (fun _ i _ => n - (intOf i).toNat)
  case atStart => exact ⟨0, 0, none, [], by omega, rfl, rfl, OwnRows.nil, New.refl _⟩
  case round =>
    obtain ⟨k, c, C, rv, hk, rfl, rfl, HO, hN⟩ := hrel
    by_cases hlt : k < n
    · obtain ⟨b, o, r, xs, rfl, hb, hx, hc, hrow⟩ := (HR.out.keep hN).at_ hlt
      have HST := Lib.hid (show regS (rows.take (k + 1)) level = regS (rows.take k) level ++ [regR level xs] by
        unfold regS; rw [take_snoc rows k xs hx, List.map_append]; rfl)
      have hxl := hrow.len
      have hrn : r.n ≤ 1000 := by rw [← hxl]; exact HRL.out xs (List.mem_of_getElem? hx)
      have HRW := Lib.hid hrow.2
      have i0' : (0 : Int) ≤ (k : Int) := by omega
      have i1' : (k : Int) < (n : Int) := by omega
      have HXL := Lib.hid hxl
      clear hx hrow hxl
      obtain ⟨RA, rn, rc⟩ := r
      dsimp only at hc HRW hrn HXL
      obtain ⟨W0, hW0⟩ : ∃ W0, wr = W0 := ⟨_, rfl⟩
      rw [hW0] at hc HRW HO hN hb ⊢
      clear hW0
      go_wp2_with fail
      go_loopw [8, 19] (fun cells i wx => ∃ (u c2 : Nat) (D : Option Addr), u ≤ rn ∧ i = .int .i64 (u : Int) ∧ cells = .slice D u c2 ∧ Hid (Sky.Own wx W0.heap.size 3 1 encI D u c2 (regR level (xs.take u))) ∧ New W0 wx) (fun _ i _ => rn - (intOf i).toNat)
      case atStart => exact ⟨0, 0, none, by omega, rfl, rfl, Sky.Own.nil _ _ _ _ encI_len, New.refl _⟩
      case round =>
        obtain ⟨u, c2, D, hu, rfl, rfl, HD, hM⟩ := hrel
        by_cases hun : u < rn
        · obtain ⟨b2, o2, x, hA2, hb2, hx2, hc2⟩ := (HRW.out.keep hM).at_ hun
          have g0 := hc2 0 _ rfl
          simp only [Nat.add_zero, Nat.mul_one] at g0
          have HSX := Lib.hid (regR_step (level := level) hx2)
          subst hA2
          have j0 : (0 : Int) ≤ (u : Int) := by omega
          have j1 : (u : Int) < (rn : Int) := by omega
          clear hx2 hc2
          by_cases hlv : level ≤ x
          · have HSY := Lib.hid (show regR level (xs.take (u + 1)) = regR level (xs.take u) ++ [1] by rw [HSX.out, if_pos hlv])
            have dl : decide (level ≤ x) = true := decide_eq_true hlv
            go_wp2_with ((at_builtin; refine wpList_pour _ rfl _ _ 22 rfl 3 i0 _ 1 8 Try.underlying22 hi hz0 hz1 hz2 rfl (by omega) W0.heap.size encI _ _ _ _ rfl (HD.out.alloc _) _ 1 1 [(1 : Int)] rfl (by exact rd_bx (Bx.mk _ _ _) encI_len _ rfl 1 rfl) encI_one (by simp [maxLen]; omega) (by omega) (hM.alloc _).size ?_; intro A3 cap3 w3 hown3 hgr3 hN3))
            have n3 := hN3 W0 (hM.alloc _) (Nat.le_refl _)
            have HO3 := Lib.hid hown3
            clear hown3 hgr3 hN3
            go_wp2_with fail
            go_roundw
            case rel => exact ⟨u + 1, cap3, A3, by omega, by go_num, rfl, by unfold Hid; rw [HSY.out]; exact HO3.out, n3⟩
            case measure => simp [intOf]; omega
          · have HSY := Lib.hid (show regR level (xs.take (u + 1)) = regR level (xs.take u) ++ [0] by rw [HSX.out, if_neg hlv])
            have dl : decide (level ≤ x) = false := decide_eq_false hlv
            go_wp2_with ((at_builtin; refine wpList_pour _ rfl _ _ 22 rfl 3 i0 _ 1 8 Try.underlying22 hi hz0 hz1 hz2 rfl (by omega) W0.heap.size encI _ _ _ _ rfl (HD.out.alloc _) _ 1 1 [(0 : Int)] rfl (by exact rd_bx (Bx.mk _ _ _) encI_len _ rfl 1 rfl) encI_one (by simp [maxLen]; omega) (by omega) (hM.alloc _).size ?_; intro A3 cap3 w3 hown3 hgr3 hN3))
            have n3 := hN3 W0 (hM.alloc _) (Nat.le_refl _)
            have HO3 := Lib.hid hown3
            clear hown3 hgr3 hN3
            go_wp2_with fail
            go_roundw
            case rel => exact ⟨u + 1, cap3, A3, by omega, by go_num, rfl, by unfold Hid; rw [HSY.out]; exact HO3.out, n3⟩
            case measure => simp [intOf]; omega
        · obtain rfl : u = rn := by omega
          have HDR := Lib.hid (show Sky.Own wr w.heap.size 3 1 encI D u c2 (regR level xs) by
            have h := HD.out
            rw [List.take_of_length_le (by rw [HXL.out]; exact Nat.le_refl _)] at h
            exact h.base_le hN.size)
          have HOK := Lib.hid (HO.out.keep hM)
          have hkc : k ≤ 1000 := by omega
          have hne : (3 : Nat) ≠ 22 := by decide
          go_wp2_with ((at_builtin; refine wpList_pour _ rfl _ _ 41 rfl 22 i1 _ 1 24 Try.underlying41 hi1 hy0 hy1 hy2 rfl (by omega) w.heap.size encSl _ _ _ _ rfl (HOK.out.own.alloc _) _ 1 1 [(⟨D, u, c2⟩ : SlV)] rfl (by exact rd_bx (Bx.mk _ _ _) encSl_len _ rfl 1 rfl) encSl_one (by simp [maxLen]; omega) (by omega) ((hN.trans hM).alloc _).size ?_; intro A3 cap3 w3 hown3 hgr3 hN3))
          have n3 := hN3 w ((hN.trans hM).alloc _) (Nat.le_refl _)
          have HO3 := Lib.hid ((HOK.out.keep ((New.refl wr).alloc (.cells #[.slice D u c2] 22))).snoc (HDR.out.alloc (.cells #[.slice D u c2] 22)) hne hown3 hgr3)
          clear hown3 hgr3 hN3
          go_wp2_with fail
          go_roundw
          case rel => exact ⟨k + 1, cap3, A3, _, by omega, by go_num, rfl, by unfold Hid; rw [HST.out]; exact HO3.out, n3⟩
          case measure => simp [intOf]; omega
    · obtain rfl : k = n := by omega
      have HFO := Lib.hid HO.out
      go_wp2_with fail
      go_ret
      refine ⟨hN, C, c, rfl, HFO.out.own.le.1, ?_⟩
      have h := HFO.out.reads
      rw [List.take_of_length_le (by rw [HL.out]; exact Nat.le_refl _)] at h
      exact h
end Go.Proofs.Ytaogolnoiffgiaa

namespace Go.Proofs.Ytaogolnoiffgiaa
open Go.RowKit Go.Sky Go.Sky.Ch

set_option maxRecDepth 100000 in
set_option maxHeartbeats 2000000 in
theorem bInts_same (A B : Option Addr) (n ca cb : Nat) (xs : List Int) (w : World) (hn : n ≤ 1000000) (hra : Rd w 1 encI A n xs) (hrb : Rd w 1 encI B n xs) :
    Calls Try.prog 89 #[.slice A n ca, .slice B n cb] w fun e w' => e = .returned (.bool true) ∧ New w w' := by
  have HA := Lib.hid hra
  have HB := Lib.hid hrb
  clear hra hrb
  go_enter Try.func89, Try.ntmps89
  go_wp2_with fail
  go_loopw [5] (fun i wr => ∃ k : Nat, k ≤ n ∧ i = .int .i64 (k : Int) ∧ New w wr) (fun i _ => n - (intOf i).toNat)
  case atStart => exact ⟨0, by omega, rfl, New.refl _⟩
  case round =>
    obtain ⟨k, hk, rfl, hN⟩ := hrel
    by_cases hlt : k < n
    · obtain ⟨b, o, x, rfl, hb, hx, hc⟩ := (HA.out.keep hN).at_ hlt
      obtain ⟨b', o', y, rfl, hb', hy, hd⟩ := (HB.out.keep hN).at_ hlt
      rw [hx] at hy
      injection hy with hy
      subst hy
      have g0 := hc 0 _ rfl
      have e0 := hd 0 _ rfl
      simp only [Nat.add_zero, Nat.mul_one] at g0 e0
      have exx : (x != x) = false := by simp
      have i0 : (0 : Int) ≤ (k : Int) := by omega
      have i1 : (k : Int) < (n : Int) := by omega
      clear hx hc hd
      go_wp2_with fail
      (refine wp_region_new (by kernel_rfl) (by kernel_rfl) ?_; (repeat (go_big_quiet_step ((fail)))); refine wpQuiet_nil ?_)
      intro w2 n2
      go_wp2_with fail
      go_roundw
      case rel => exact ⟨k + 1, by omega, by go_num, hN.trans n2⟩
      case measure => simp [intOf]; omega
    · obtain rfl : k = n := by omega
      go_wp2_with fail
      go_ret
      exact ⟨rfl, hN⟩

set_option maxRecDepth 100000 in
set_option maxHeartbeats 2000000 in
theorem bLists_same (A B : Option Addr) (n ca cb : Nat) (rows : List (List Int)) (w : World) (hn : n ≤ 1000000) (hrl : ∀ r ∈ rows, r.length ≤ 1000000) (hra : RowsL w 1 encI A n rows) (hrb : RowsL w 1 encI B n rows) :
    Calls Try.prog 28 #[.slice A n ca, .slice B n cb] w fun e w' => e = .returned (.bool true) ∧ New w w' := by
  have HA := Lib.hid hra
  have HB := Lib.hid hrb
  have HL := Lib.hid hrl
  clear hra hrb hrl
  go_enter Try.func28, Try.ntmps28
  go_wp2_with fail
  go_loopw [5] (fun i wr => ∃ k : Nat, k ≤ n ∧ i = .int .i64 (k : Int) ∧ New w wr) (fun i _ => n - (intOf i).toNat)
  case atStart => exact ⟨0, by omega, rfl, New.refl _⟩
  case round =>
    obtain ⟨k, hk, rfl, hN⟩ := hrel
    by_cases hlt : k < n
    · obtain ⟨b, o, r, xs, rfl, hb, hx, hc, hrow⟩ := (HA.out.keep hN).at_ hlt
      obtain ⟨b', o', r', ys, rfl, hb', hy, hd, hrow'⟩ := (HB.out.keep hN).at_ hlt
      rw [hx] at hy
      injection hy with hy
      subst hy
      obtain ⟨RA, rn, rc⟩ := r
      obtain ⟨RB, rm, rd⟩ := r'
      have e1 : xs.length = rn := hrow.len
      have e2 : xs.length = rm := hrow'.len
      obtain rfl : rn = rm := by omega
      have hle : rn ≤ 1000000 := by rw [← e1]; exact HL.out xs (List.mem_of_getElem? hx)
      have H1 := Lib.hid hrow.2
      have H2 := Lib.hid hrow'.2
      dsimp only at hc hd H1 H2
      have i0 : (0 : Int) ≤ (k : Int) := by omega
      have i1 : (k : Int) < (n : Int) := by omega
      clear hx hrow hrow' e1 e2
      go_wp2_with fail
      (refine wp_region_new (by kernel_rfl) (by kernel_rfl) ?_; (repeat (go_big_quiet_step (((go_at_call 89; exact quiet_new (bInts_same RA RB rn rc rd xs _ hle (by exact H1.out.keep (plus_new _ _)) (by exact H2.out.keep (plus_new _ _)))))))); refine wpQuiet_nil ?_)
      intro w2 n2
      go_wp2_with fail
      go_roundw
      case rel => exact ⟨k + 1, by omega, by go_num, hN.trans n2⟩
      case measure => simp [intOf]; omega
    · obtain rfl : k = n := by omega
      go_wp2_with fail
      go_ret
      exact ⟨rfl, hN⟩

theorem neq_pl (x y u v : Int) (W : World) : (binOp .neq 73 (.agg #[.int .i64 x, .int .i64 y]) (.agg #[.int .i64 u, .int .i64 v])).run Try.prog W = .ok (.bool (!(x == u && y == v))) W := by
  have h := eql_pl_d 9998 x y u v
  simp only [binOp]
  simp [Op.equal, Op.maxDepth, h, go_sem]

set_option maxRecDepth 100000 in
set_option maxHeartbeats 2000000 in
theorem refSameContour_same (A B : Option Addr) (n ca cb : Nat) (xs : List (Int × Int)) (w : World) (hn : n ≤ 1000000) (hra : Rd w 2 encPl A n xs) (hrb : Rd w 2 encPl B n xs) :
    Calls Try.prog 90 #[.slice A n ca, .slice B n cb] w fun e w' => e = .returned (.bool true) ∧ New w w' := by
  have HA := Lib.hid hra
  have HB := Lib.hid hrb
  clear hra hrb
  go_enter Try.func90, Try.ntmps90
  go_wp2_with fail
  go_loopw [5] (fun i wr => ∃ k : Nat, k ≤ n ∧ i = .int .i64 (k : Int) ∧ New w wr) (fun i _ => n - (intOf i).toNat)
  case atStart => exact ⟨0, by omega, rfl, New.refl _⟩
  case round =>
    obtain ⟨k, hk, rfl, hN⟩ := hrel
    by_cases hlt : k < n
    · obtain ⟨b, o, x, rfl, hb, hx, hc⟩ := (HA.out.keep hN).at_ hlt
      obtain ⟨b', o', y, rfl, hb', hy, hd⟩ := (HB.out.keep hN).at_ hlt
      rw [hx] at hy
      injection hy with hy
      subst hy
      have g0 := hc 0 _ rfl
      have g1 := hc 1 _ rfl
      have e0 := hd 0 _ rfl
      have e1 := hd 1 _ rfl
      simp only [Nat.add_zero] at g0 e0
      have hne : ∀ W, (binOp .neq 73 (.agg #[.int .i64 x.1, .int .i64 x.2]) (.agg #[.int .i64 x.1, .int .i64 x.2])).run Try.prog W = .ok (.bool false) W := fun W => by rw [neq_pl]; simp
      have i0 : (0 : Int) ≤ (k : Int) := by omega
      have i1 : (k : Int) < (n : Int) := by omega
      clear hx hc hd
      go_wp2_with fail
      (refine wp_region_new (by kernel_rfl) (by kernel_rfl) ?_; (repeat (go_big_quiet_step ((fail)))); refine wpQuiet_nil ?_)
      intro w2 n2
      go_wp2_with fail
      go_roundw
      case rel => exact ⟨k + 1, by omega, by go_num, hN.trans n2⟩
      case measure => simp [intOf]; omega
    · obtain rfl : k = n := by omega
      go_wp2_with fail
      go_ret
      exact ⟨rfl, hN⟩

set_option maxRecDepth 100000 in
set_option maxHeartbeats 2000000 in
theorem refSameContours_same (A B : Option Addr) (n ca cb : Nat) (rows : List (List (Int × Int))) (w : World) (hn : n ≤ 1000000) (hrl : ∀ r ∈ rows, r.length ≤ 1000000) (hra : RowsL w 2 encPl A n rows) (hrb : RowsL w 2 encPl B n rows) :
    Calls Try.prog 30 #[.slice A n ca, .slice B n cb] w fun e w' => e = .returned (.bool true) ∧ New w w' := by
  have HA := Lib.hid hra
  have HB := Lib.hid hrb
  have HL := Lib.hid hrl
  clear hra hrb hrl
  go_enter Try.func30, Try.ntmps30
  go_wp2_with fail
  go_loopw [5] (fun i wr => ∃ k : Nat, k ≤ n ∧ i = .int .i64 (k : Int) ∧ New w wr) (fun i _ => n - (intOf i).toNat)
  case atStart => exact ⟨0, by omega, rfl, New.refl _⟩
  case round =>
    obtain ⟨k, hk, rfl, hN⟩ := hrel
    by_cases hlt : k < n
    · obtain ⟨b, o, r, xs, rfl, hb, hx, hc, hrow⟩ := (HA.out.keep hN).at_ hlt
      obtain ⟨b', o', r', ys, rfl, hb', hy, hd, hrow'⟩ := (HB.out.keep hN).at_ hlt
      rw [hx] at hy
      injection hy with hy
      subst hy
      obtain ⟨RA, rn, rc⟩ := r
      obtain ⟨RB, rm, rd⟩ := r'
      have e1 : xs.length = rn := hrow.len
      have e2 : xs.length = rm := hrow'.len
      obtain rfl : rn = rm := by omega
      have hle : rn ≤ 1000000 := by rw [← e1]; exact HL.out xs (List.mem_of_getElem? hx)
      have H1 := Lib.hid hrow.2
      have H2 := Lib.hid hrow'.2
      dsimp only at hc hd H1 H2
      have i0 : (0 : Int) ≤ (k : Int) := by omega
      have i1 : (k : Int) < (n : Int) := by omega
      clear hx hrow hrow' e1 e2
      go_wp2_with fail
      (refine wp_region_new (by kernel_rfl) (by kernel_rfl) ?_; (repeat (go_big_quiet_step (((go_at_call 90; exact quiet_new (refSameContour_same RA RB rn rc rd xs _ hle (by exact H1.out.keep (plus_new _ _)) (by exact H2.out.keep (plus_new _ _)))))))); refine wpQuiet_nil ?_)
      intro w2 n2
      go_wp2_with fail
      go_roundw
      case rel => exact ⟨k + 1, by omega, by go_num, hN.trans n2⟩
      case measure => simp [intOf]; omega
    · obtain rfl : k = n := by omega
      go_wp2_with fail
      go_ret
      exact ⟨rfl, hN⟩

set_option maxRecDepth 100000 in
set_option maxHeartbeats 4000000 in
theorem bCopyLists_any (A : Option Addr) (n cap : Nat) (rows : List (List Int)) (w : World) (hn : n ≤ 100000) (hrl : ∀ r ∈ rows, r.length ≤ 1000000) (hr : RowsL w 1 encI A n rows) :
    Calls Try.prog 23 #[.slice A n cap] w fun e w' => New w w' ∧ ∃ C c, e = .returned (.slice C n c) ∧ n ≤ c ∧ RowsL w' 1 encI C n rows := by
  obtain ⟨i1, hi1, hy0, hy1, hy2⟩ := info_parts infoRowI
  have HL := Lib.hid hr.len
  have HR := Lib.hid hr
  have HRL := Lib.hid hrl
  clear hr hrl
  go_enter Try.func23, Try.ntmps23
  go_wp2_with fail
  go_loopw [3, 4] (fun out i wr => ∃ (k c : Nat) (C : Option Addr) (rv : List SlV), k ≤ n ∧ i = .int .i64 (k : Int) ∧ out = .slice C k c ∧ Hid (OwnRows wr w.heap.size 3 22 1 encI C k c rv (rows.take k)) ∧ New w wr) (fun _ i _ => n - (intOf i).toNat)
  case atStart => exact ⟨0, 0, none, [], by omega, rfl, rfl, OwnRows.nil, New.refl _⟩
  case round =>
    obtain ⟨k, c, C, rv, hk, rfl, rfl, HO, hN⟩ := hrel
    by_cases hlt : k < n
    · obtain ⟨b, o, r, xs, rfl, hb, hx, hc, hrow⟩ := (HR.out.keep hN).at_ hlt
      have HST := Lib.hid (show rows.take (k + 1) = rows.take k ++ [xs] from take_snoc rows k xs hx)
      obtain ⟨RA, rn, rc⟩ := r
      have hxl : xs.length = rn := hrow.len
      have hrn : rn ≤ 1000000 := by rw [← hxl]; exact HRL.out xs (List.mem_of_getElem? hx)
      have HRW := Lib.hid hrow.2
      dsimp only at hc HRW
      have i0' : (0 : Int) ≤ (k : Int) := by omega
      have i1' : (k : Int) < (n : Int) := by omega
      clear hx hrow hxl
      go_wp2_with fail
      refine (copyInts_any RA rn rc xs _ hrn HRW.out).mono ?_
      rintro e w2 ⟨D, c2, rfl, ho2, n2⟩
      have HDR := Lib.hid (ho2.base_le hN.size)
      have HOK := Lib.hid (HO.out.keep n2)
      have N2 := hN.trans n2
      have hkc : k ≤ 100000 := by omega
      have hne : (3 : Nat) ≠ 22 := by decide
      clear ho2 n2
      go_wp2_with ((at_builtin; refine wpList_pour _ rfl _ _ 41 rfl 22 i1 _ 1 24 Try.underlying41 hi1 hy0 hy1 hy2 rfl (by omega) w.heap.size encSl _ _ _ _ rfl (HOK.out.own.alloc _) _ 1 1 [(⟨D, rn, c2⟩ : SlV)] rfl (by exact rd_bx (Bx.mk _ _ _) encSl_len _ rfl 1 rfl) encSl_one (by simp [maxLen]; omega) (by omega) (N2.alloc _).size ?_; intro A3 cap3 w3 hown3 hgr3 hN3))
      have n3 := hN3 w (N2.alloc _) (Nat.le_refl _)
      have HO3 := Lib.hid ((HOK.out.keep ((New.refl w2).alloc (.cells #[.slice D rn c2] 22))).snoc (HDR.out.alloc (.cells #[.slice D rn c2] 22)) hne hown3 hgr3)
      clear hown3 hgr3 hN3
      go_wp2_with fail
      go_roundw
      case rel => exact ⟨k + 1, cap3, A3, _, by omega, by go_num, rfl, by unfold Hid; rw [HST.out]; exact HO3.out, n3⟩
      case measure => simp [intOf]; omega
    · obtain rfl : k = n := by omega
      have HFO := Lib.hid HO.out
      go_wp2_with fail
      go_ret
      refine ⟨hN, C, c, rfl, HFO.out.own.le.1, ?_⟩
      have h := HFO.out.reads
      rw [List.take_of_length_le (by rw [HL.out]; exact Nat.le_refl _)] at h
      exact h

def levelE (n : Int) : Int := errU (inR n (-10000) 10000) 2
theorem refLevel_is {n v : Int} (h : levelE n = v) (w : World) : Calls Try.prog 27 #[.int .i64 n] w fun e w' => e = .returned (.int .i64 v) ∧ w = w' := by
  subst h
  have HV := Lib.hid (show levelE n = errU (inR n (-10000) 10000) 2 from rfl)
  obtain ⟨q1, h1⟩ : ∃ v, inR n (-10000) 10000 = v := ⟨_, rfl⟩
  rw [h1] at HV
  have H1 := Lib.hid h1
  clear h1
  cases q1
  all_goals
    go_enter Try.func27, Try.ntmps27
    go_wp2_with (go_at_call 19; refine (bWithin_any _ _ _ _).mono ?_; rintro e w' ⟨rfl, rfl⟩; rw [H1.out])
    go_ret
    exact ⟨by rw [HV.out]; rfl, rfl⟩

theorem row_len0 {rows : List (List Int)} {xs : List Int} (h : rows[0]? = some xs) : len0 rows = xs.length := by
  cases rows with
  | nil => cases h
  | cons a t => injection h with h; subst h; rfl
theorem rowAt_is {rows : List (List Int)} {k : Nat} {xs : List Int} (h : rows[k]? = some xs) : rowAtE rows k = firstE [errU (decide (0 < xs.length) && decide (xs.length = len0 rows)) 10, errU (decide (xs.length ≤ 8)) 8, errU (!xs.any strangeG) 2] := by
  unfold rowAtE; rw [h]; rfl

set_option maxRecDepth 100000 in
set_option maxHeartbeats 8000000 in
theorem refGrid_any (A : Option Addr) (n cap : Nat) (rows : List (List Int)) (w : World) (hn : n ≤ 1000000) (hrl : ∀ r ∈ rows, r.length ≤ 1000000) (hr : RowsL w 1 encI A n rows) :
    Calls Try.prog 26 #[.slice A n cap] w fun e w' => e = .returned (.tuple #[.int .i64 (gridS rows).1, .int .i64 (gridS rows).2]) ∧ New w w' := by
  have HL := Lib.hid hr.len
  have HR := Lib.hid hr
  have HRL := Lib.hid hrl
  clear hr hrl
  by_cases h0 : n = 0
  · subst h0
    have HV := Lib.hid (show gridS rows = (0, 10) by unfold gridS; rw [if_pos HL.out])
    go_enter Try.func26, Try.ntmps26
    go_wp2_with fail
    go_ret2
    exact ⟨by rw [HV.out]; rfl, New.refl _⟩
  have e0 : ((n : Int) == 0) = false := by simp; omega
  by_cases h8 : 8 < n
  · have HV := Lib.hid (show gridS rows = (0, 8) by unfold gridS; rw [if_neg (by rw [HL.out]; exact h0), if_pos (by rw [HL.out]; exact h8)])
    go_enter Try.func26, Try.ntmps26
    go_wp2_with fail
    go_ret2
    exact ⟨by rw [HV.out]; rfl, New.refl _⟩
  have HV := Lib.hid (show gridS rows = fb (rowAtE rows) n by unfold gridS; rw [if_neg (by rw [HL.out]; exact h0), if_neg (by rw [HL.out]; exact h8), HL.out])
  go_enter Try.func26, Try.ntmps26
  go_wp2_with fail
  go_loopw [4] (fun i wr => ∃ k : Nat, k ≤ n ∧ i = .int .i64 (k : Int) ∧ Hid (∀ j, j < k → rowAtE rows j = 0) ∧ New w wr) (fun i _ => n - (intOf i).toNat)
  case atStart => exact ⟨0, by omega, rfl, fun j hj => absurd hj (by omega), New.refl _⟩
  case round =>
    obtain ⟨k, hk, rfl, HF, hN⟩ := hrel
    by_cases hlt : k < n
    · obtain ⟨b, o, r, xs, rfl, hb, hx, hc, hrow⟩ := (HR.out.keep hN).at_ hlt
      obtain ⟨b', o', r0, ys, hA, hb', hy, hd, hrow0⟩ := (HR.out.keep hN).at_ (show 0 < n by omega)
      injection hA with hA
      injection hA with ea eb
      subst ea eb
      obtain ⟨RA, rn, rc⟩ := r
      obtain ⟨R0, m0, c0⟩ := r0
      have hxl : xs.length = rn := hrow.len
      have hyl : len0 rows = m0 := by rw [row_len0 hy]; exact hrow0.len
      have hrn : rn ≤ 1000000 := by rw [← hxl]; exact HRL.out xs (List.mem_of_getElem? hx)
      have HRW := Lib.hid hrow.2
      have HXL := Lib.hid hxl
      have HX := Lib.hid hx
      have HRA := Lib.hid (rowAt_is hx)
      rw [hxl, hyl] at HRA
      dsimp only at hc hd HRW
      simp only [Nat.add_zero] at hd
      have i0' : (0 : Int) ≤ (k : Int) := by omega
      have i1' : (k : Int) < (n : Int) := by omega
      have i2' : (0 : Int) < (n : Int) := by omega
      clear hx hy hrow hrow0 hxl hyl
      by_cases hz : rn = 0
      · subst hz
        have HB := Lib.hid (show fb (rowAtE rows) n = ((k : Int), 10) by
          have h1 : rowAtE rows k = 10 := by rw [HRA.out, decide_eq_false (by omega : ¬ 0 < 0)]; rfl
          rw [fb_hit hlt HF.out (by rw [h1]; decide), h1])
        go_wp2_with fail
        (refine wp_region_new (by kernel_rfl) (by kernel_rfl) ?_; (repeat (go_big_quiet_step ((fail)))); refine wpQuiet_nil ?_)
        intro w2 n2
        go_wp2_with fail
        go_ret2
        exact ⟨by rw [HV.out, HB.out]; rfl, hN.trans n2⟩
      have ez : ((rn : Int) == 0) = false := by simp; omega
      by_cases hm : rn = m0
      rotate_left
      · have em : ((rn : Int) != (m0 : Int)) = true := by simp; omega
        have HB := Lib.hid (show fb (rowAtE rows) n = ((k : Int), 10) by
          have h1 : rowAtE rows k = 10 := by rw [HRA.out, decide_eq_true (by omega : 0 < rn), decide_eq_false hm]; rfl
          rw [fb_hit hlt HF.out (by rw [h1]; decide), h1])
        go_wp2_with fail
        (refine wp_region_new (by kernel_rfl) (by kernel_rfl) ?_; (repeat (go_big_quiet_step ((fail)))); refine wpQuiet_nil ?_)
        intro w2 n2
        go_wp2_with fail
        go_ret2
        exact ⟨by rw [HV.out, HB.out]; rfl, hN.trans n2⟩
      subst hm
      have em : ((rn : Int) != (rn : Int)) = false := by simp
      by_cases hr8 : 8 < rn
      · have HB := Lib.hid (show fb (rowAtE rows) n = ((k : Int), 8) by
          have h1 : rowAtE rows k = 8 := by rw [HRA.out, decide_eq_true (by omega : 0 < rn), decide_eq_true rfl, decide_eq_false (by omega : ¬ rn ≤ 8)]; rfl
          rw [fb_hit hlt HF.out (by rw [h1]; decide), h1])
        go_wp2_with fail
        (refine wp_region_new (by kernel_rfl) (by kernel_rfl) ?_; (repeat (go_big_quiet_step ((fail)))); refine wpQuiet_nil ?_)
        intro w2 n2
        have hc2 := n2.cell hc
        have hb2 : b < w2.heap.size := Nat.lt_of_lt_of_le hb n2.size
        go_wp2_with fail
        go_ret2
        exact ⟨by rw [HV.out, HB.out]; rfl, hN.trans n2⟩
      have HRA2 := Lib.hid (show rowAtE rows k = errU (!xs.any strangeG) 2 by
        rw [HRA.out, decide_eq_true (by omega : 0 < rn), decide_eq_true rfl, decide_eq_true (by omega : rn ≤ 8)]
        unfold firstE firstE firstE
        cases xs.any strangeG <;> rfl)
      clear HRA
      go_wp2_with fail
      (refine wp_region_new (by kernel_rfl) (by kernel_rfl) ?_; (repeat (go_big_quiet_step ((fail)))); refine wpQuiet_nil ?_)
      intro w2 n2
      have hc2 := n2.cell hc
      have hb2 : b < w2.heap.size := Nat.lt_of_lt_of_le hb n2.size
      have N2 := hN.trans n2
      have HRW2 := Lib.hid (HRW.out.keep n2)
      clear hc hd n2 hN HRW
      go_wp2_with fail
      go_loopw [5] (fun i wx => ∃ u : Nat, u ≤ rn ∧ i = .int .i64 (u : Int) ∧ Hid (∀ j x, j < u → xs[j]? = some x → strangeG x = false) ∧ New w2 wx) (fun i _ => rn - (intOf i).toNat)
      case atStart => exact ⟨0, by omega, rfl, fun j x hj => absurd hj (by omega), New.refl _⟩
      case round =>
        obtain ⟨u, hu, rfl, HG, hM⟩ := hrel
        have hc3 := hM.cell hc2
        have hb3 : b < wr.heap.size := Nat.lt_of_lt_of_le hb2 hM.size
        by_cases hun : u < rn
        · obtain ⟨b2, o2, x, rfl, hbx, hx2, hcx⟩ := (HRW2.out.keep hM).at_ hun
          have g0 := hcx 0 _ rfl
          simp only [Nat.add_zero, Nat.mul_one] at g0
          have HX2 := Lib.hid hx2
          have j0 : (0 : Int) ≤ (u : Int) := by omega
          have j1 : (u : Int) < (rn : Int) := by omega
          clear hx2 hcx
          obtain ⟨t, ht⟩ : ∃ t, inR x (-10000) 10000 = t := ⟨_, rfl⟩
          have HT := Lib.hid ht
          have HTG := Lib.hid (show strangeG x = !t by rw [← ht]; rfl)
          clear ht
          cases t
          · have HB := Lib.hid (show fb (rowAtE rows) n = ((k : Int), 2) by
              have h1 : rowAtE rows k = 2 := by
                rw [HRA2.out, show xs.any strangeG = true from List.any_eq_true.2 ⟨x, List.mem_of_getElem? HX2.out, HTG.out⟩]; rfl
              rw [fb_hit hlt HF.out (by rw [h1]; decide), h1])
            go_wp2_with (go_at_call 19; refine (bWithin_any _ _ _ _).mono ?_; rintro e w' ⟨rfl, rfl⟩; rw [HT.out])
            go_ret2
            exact ⟨by rw [HV.out, HB.out]; rfl, N2.trans hM⟩
          · go_wp2_with (go_at_call 19; refine (bWithin_any _ _ _ _).mono ?_; rintro e w' ⟨rfl, rfl⟩; rw [HT.out])
            go_roundw
            case rel => exact ⟨u + 1, by omega, by go_num, fun j y hj hy => by
              rcases Nat.lt_or_ge j u with h | h
              · exact HG.out j y h hy
              · obtain rfl : j = u := by omega
                have hxy := HX2.out
                rw [hy] at hxy
                injection hxy with hxy
                rw [hxy]; exact HTG.out, hM⟩
            case measure => simp [intOf]; omega
        · obtain rfl : u = rn := by omega
          have HZ := Lib.hid (show rowAtE rows k = 0 by
            rw [HRA2.out, show xs.any strangeG = false from List.any_eq_false.2 (fun x hx => by
              obtain ⟨i, hi, rfl⟩ := List.getElem_of_mem hx
              rw [HG.out i _ (by rw [← HXL.out]; exact hi) (List.getElem?_eq_getElem hi)]
              decide)]; rfl)
          go_wp2_with fail
          go_roundw
          case rel => exact ⟨k + 1, by omega, by go_num, fun j hj => by
            rcases Nat.lt_or_ge j k with h | h
            · exact HF.out j h
            · obtain rfl : j = k := by omega
              exact HZ.out, N2.trans hM⟩
          case measure => simp [intOf]; omega
    · obtain rfl : k = n := by omega
      have HB := Lib.hid (fb_none HF.out)
      go_wp2_with fail
      go_ret2
      exact ⟨by rw [HV.out, HB.out]; rfl, hN⟩
theorem refGrid_is {rows : List (List Int)} {u v : Int} (h1 : (gridS rows).1 = u) (h2 : (gridS rows).2 = v) (A : Option Addr) (n cap : Nat) (w : World) (hn : n ≤ 1000000) (hrl : ∀ r ∈ rows, r.length ≤ 1000000) (hr : RowsL w 1 encI A n rows) :
    Calls Try.prog 26 #[.slice A n cap] w fun e w' => e = .returned (.tuple #[.int .i64 u, .int .i64 v]) ∧ New w w' := h1 ▸ h2 ▸ refGrid_any A n cap rows w hn hrl hr

set_option maxRecDepth 100000 in
set_option maxHeartbeats 8000000 in
theorem refRegion_any (A : Option Addr) (n cap : Nat) (rows : List (List Int)) (level : Int) (w : World) (hn : n ≤ 1000) (hrl : ∀ r ∈ rows, r.length ≤ 1000) (hr : RowsL w 1 encI A n rows) :
    Calls Try.prog 29 #[.slice A n cap, .int .i64 level] w fun e w' => New w w' ∧ ∃ C c, e = .returned (.slice C n c) ∧ n ≤ c ∧ RowsL w' 1 encI C n (regS rows level) := by
  obtain ⟨i0, hi, hz0, hz1, hz2⟩ := info_parts infoInt
  obtain ⟨i1, hi1, hy0, hy1, hy2⟩ := info_parts infoRowI
  have HL := Lib.hid hr.len
  have HR := Lib.hid hr
  have HRL := Lib.hid hrl
  clear hr hrl
  go_enter Try.func29, Try.ntmps29
  go_wp2_with fail
  go_loopw [5, 6] (fun out i wr => ∃ (k c : Nat) (C : Option Addr) (rv : List SlV), k ≤ n ∧ i = .int .i64 (k : Int) ∧ out = .slice C k c ∧ Hid (OwnRows wr w.heap.size 3 22 1 encI C k c rv (regS (rows.take k) level)) ∧ New w wr) (fun _ i _ => n - (intOf i).toNat)
  case atStart => exact ⟨0, 0, none, [], by omega, rfl, rfl, OwnRows.nil, New.refl _⟩
  case round =>
    obtain ⟨k, c, C, rv, hk, rfl, rfl, HO, hN⟩ := hrel
    by_cases hlt : k < n
    · obtain ⟨b, o, r, xs, rfl, hb, hx, hc, hrow⟩ := (HR.out.keep hN).at_ hlt
      have HST := Lib.hid (show regS (rows.take (k + 1)) level = regS (rows.take k) level ++ [regR level xs] by
        unfold regS; rw [take_snoc rows k xs hx, List.map_append]; rfl)
      have hxl := hrow.len
      have hrn : r.n ≤ 1000 := by rw [← hxl]; exact HRL.out xs (List.mem_of_getElem? hx)
      have HRW := Lib.hid hrow.2
      have i0' : (0 : Int) ≤ (k : Int) := by omega
      have i1' : (k : Int) < (n : Int) := by omega
      have HXL := Lib.hid hxl
      clear hx hrow hxl
      obtain ⟨RA, rn, rc⟩ := r
      dsimp only at hc HRW hrn HXL
      obtain ⟨W0, hW0⟩ : ∃ W0, wr = W0 := ⟨_, rfl⟩
      rw [hW0] at hc HRW HO hN hb ⊢
      clear hW0
      go_wp2_with fail
      go_loopw [7, 8] (fun cells i wx => ∃ (u c2 : Nat) (D : Option Addr), u ≤ rn ∧ i = .int .i64 (u : Int) ∧ cells = .slice D u c2 ∧ Hid (Sky.Own wx W0.heap.size 3 1 encI D u c2 (regR level (xs.take u))) ∧ New W0 wx) (fun _ i _ => rn - (intOf i).toNat)
      case atStart => exact ⟨0, 0, none, by omega, rfl, rfl, Sky.Own.nil _ _ _ _ encI_len, New.refl _⟩
      case round =>
        obtain ⟨u, c2, D, hu, rfl, rfl, HD, hM⟩ := hrel
        have hc3 := hM.cell hc
        have hb3 : b < wr.heap.size := Nat.lt_of_lt_of_le hb hM.size
        by_cases hun : u < rn
        · obtain ⟨b2, o2, x, hA2, hb2, hx2, hc2⟩ := (HRW.out.keep hM).at_ hun
          have g0 := hc2 0 _ rfl
          simp only [Nat.add_zero, Nat.mul_one] at g0
          have HSX := Lib.hid (regR_step (level := level) hx2)
          subst hA2
          have j0 : (0 : Int) ≤ (u : Int) := by omega
          have j1 : (u : Int) < (rn : Int) := by omega
          clear hx2 hc2
          by_cases hlv : level ≤ x
          · have HSY := Lib.hid (show regR level (xs.take (u + 1)) = regR level (xs.take u) ++ [1] by rw [HSX.out, if_pos hlv])
            have dl : decide (level ≤ x) = true := decide_eq_true hlv
            go_wp2_with ((at_builtin; refine wpList_pour _ rfl _ _ 22 rfl 3 i0 _ 1 8 Try.underlying22 hi hz0 hz1 hz2 rfl (by omega) W0.heap.size encI _ _ _ _ rfl (HD.out.alloc _) _ 1 1 [(1 : Int)] rfl (by exact rd_bx (Bx.mk _ _ _) encI_len _ rfl 1 rfl) encI_one (by simp [maxLen]; omega) (by omega) (hM.alloc _).size ?_; intro A3 cap3 w3 hown3 hgr3 hN3))
            have n3 := hN3 W0 (hM.alloc _) (Nat.le_refl _)
            have HO3 := Lib.hid hown3
            clear hown3 hgr3 hN3
            go_wp2_with fail
            go_roundw
            case rel => exact ⟨u + 1, cap3, A3, by omega, by go_num, rfl, by unfold Hid; rw [HSY.out]; exact HO3.out, n3⟩
            case measure => simp [intOf]; omega
          · have HSY := Lib.hid (show regR level (xs.take (u + 1)) = regR level (xs.take u) ++ [0] by rw [HSX.out, if_neg hlv])
            have dl : decide (level ≤ x) = false := decide_eq_false hlv
            go_wp2_with ((at_builtin; refine wpList_pour _ rfl _ _ 22 rfl 3 i0 _ 1 8 Try.underlying22 hi hz0 hz1 hz2 rfl (by omega) W0.heap.size encI _ _ _ _ rfl (HD.out.alloc _) _ 1 1 [(0 : Int)] rfl (by exact rd_bx (Bx.mk _ _ _) encI_len _ rfl 1 rfl) encI_one (by simp [maxLen]; omega) (by omega) (hM.alloc _).size ?_; intro A3 cap3 w3 hown3 hgr3 hN3))
            have n3 := hN3 W0 (hM.alloc _) (Nat.le_refl _)
            have HO3 := Lib.hid hown3
            clear hown3 hgr3 hN3
            go_wp2_with fail
            go_roundw
            case rel => exact ⟨u + 1, cap3, A3, by omega, by go_num, rfl, by unfold Hid; rw [HSY.out]; exact HO3.out, n3⟩
            case measure => simp [intOf]; omega
        · obtain rfl : u = rn := by omega
          have HDR := Lib.hid (show Sky.Own wr w.heap.size 3 1 encI D u c2 (regR level xs) by
            have h := HD.out
            rw [List.take_of_length_le (by rw [HXL.out]; exact Nat.le_refl _)] at h
            exact h.base_le hN.size)
          have HOK := Lib.hid (HO.out.keep hM)
          have hkc : k ≤ 1000 := by omega
          have hne : (3 : Nat) ≠ 22 := by decide
          go_wp2_with ((at_builtin; refine wpList_pour _ rfl _ _ 41 rfl 22 i1 _ 1 24 Try.underlying41 hi1 hy0 hy1 hy2 rfl (by omega) w.heap.size encSl _ _ _ _ rfl (HOK.out.own.alloc _) _ 1 1 [(⟨D, u, c2⟩ : SlV)] rfl (by exact rd_bx (Bx.mk _ _ _) encSl_len _ rfl 1 rfl) encSl_one (by simp [maxLen]; omega) (by omega) ((hN.trans hM).alloc _).size ?_; intro A3 cap3 w3 hown3 hgr3 hN3))
          have n3 := hN3 w ((hN.trans hM).alloc _) (Nat.le_refl _)
          have HO3 := Lib.hid ((HOK.out.keep ((New.refl wr).alloc (.cells #[.slice D u c2] 22))).snoc (HDR.out.alloc (.cells #[.slice D u c2] 22)) hne hown3 hgr3)
          clear hown3 hgr3 hN3
          go_wp2_with fail
          go_roundw
          case rel => exact ⟨k + 1, cap3, A3, _, by omega, by go_num, rfl, by unfold Hid; rw [HST.out]; exact HO3.out, n3⟩
          case measure => simp [intOf]; omega
    · obtain rfl : k = n := by omega
      have HFO := Lib.hid HO.out
      go_wp2_with fail
      go_ret
      refine ⟨hN, C, c, rfl, HFO.out.own.le.1, ?_⟩
      have h := HFO.out.reads
      rw [List.take_of_length_le (by rw [HL.out]; exact Nat.le_refl _)] at h
      exact h

/-- What RegionOf answers. -/
def RegOut (w' : World) (rows : List (List Int)) (level : Int) (n : Nat) (e : Ending) : Prop :=
  (∃ v, openE rows level = v ∧ v ≠ 0 ∧ e = .returned (.tuple #[.slice none 0 0, .int .i64 v])) ∨
  (openE rows level = 0 ∧ ∃ C c, e = .returned (.tuple #[.slice C n c, .int .i64 0]) ∧ n ≤ c ∧ RowsL w' 1 encI C n (regS rows level))
theorem open_ok {rows : List (List Int)} {level : Int} (h : openE rows level = 0) : GrOk rows ∧ levelE level = 0 := by
  have hz := firstE_zero h
  exact ⟨grid_ok (hz (gridS rows).2 (by simp)), hz (errU (sizedI level 10000) 2) (by simp)⟩

set_option maxRecDepth 100000 in
set_option maxHeartbeats 4000000 in
theorem cRegionOf_any (A : Option Addr) (n cap : Nat) (rows : List (List Int)) (level : Int) (w : World) (hn : n ≤ 1000000) (hrl : ∀ r ∈ rows, r.length ≤ 1000000) (hr : RowsL w 1 encI A n rows) :
    Calls Try.prog 24 #[.slice A n cap, .int .i64 level] w fun e w' => New w w' ∧ RegOut w' rows level n e := by
  have HL := Lib.hid hr.len
  have HR := Lib.hid hr
  have HRL := Lib.hid hrl
  clear hr hrl
  obtain ⟨E, hE⟩ : ∃ E, openE rows level = E := ⟨_, rfl⟩
  have HE := Lib.hid hE
  clear hE
  by_cases h0 : E = 0
  · subst h0
    have hg := (open_ok HE.out).1
    have hnn : n ≤ 1000 := by have := hg.h; rw [HL.out] at this; omega
    have HRL2 := Lib.hid (show ∀ r ∈ rows, r.length ≤ 1000 from fun r hr => by
      obtain ⟨i, hi, rfl⟩ := List.getElem_of_mem hr
      have := (hg.row i _ (List.getElem?_eq_getElem hi)).1
      have := hg.w
      omega)
    clear hg
    go_enter Try.func24, Try.ntmps24
    go_wp2_with fail
    refine (cOpenGrid_is HE.out A n cap _ hn HRL.out HR.out).mono ?_
    rintro e w1 ⟨rfl, n1⟩
    go_wp2_with fail
    refine (cRegion_any A n cap rows level _ hnn HRL2.out (HR.out.keep n1)).mono ?_
    rintro e w2 ⟨n2, C, c, rfl, hc, hrr⟩
    have HRR := Lib.hid hrr
    clear hrr
    go_wp2_with fail
    go_ret2
    exact ⟨n1.trans n2, .inr ⟨HE.out, C, c, rfl, hc, HRR.out⟩⟩
  · have bE : (E != 0) = true := by simpa using h0
    go_enter Try.func24, Try.ntmps24
    go_wp2_with fail
    refine (cOpenGrid_is HE.out A n cap _ hn HRL.out HR.out).mono ?_
    rintro e w1 ⟨rfl, n1⟩
    go_wp2_with fail
    go_ret2
    exact ⟨n1, .inl ⟨E, HE.out, h0, rfl⟩⟩

def fewCl (rows : List (List Int)) : Bool := decide (rows.length ≤ 10) && rows.all fun r => decide (r.length ≤ 10)
theorem few_cl {rows : List (List Int)} (h : fewCl rows = true) : rows.length ≤ 10 ∧ ∀ r ∈ rows, r.length ≤ 10 := by
  unfold fewCl at h
  rw [Bool.and_eq_true] at h
  exact ⟨of_decide_eq_true h.1, fun s hs => of_decide_eq_true (List.all_eq_true.1 h.2 s hs)⟩

set_option maxRecDepth 100000 in
set_option maxHeartbeats 2000000 in
theorem fewCells_any (A : Option Addr) (n cap : Nat) (rows : List (List Int)) (w : World) (hr : RowsL w 1 encI A n rows) :
    Calls Try.prog 21 #[.slice A n cap] w fun e w' => e = .returned (.bool (fewCl rows)) ∧ w = w' := by
  have HL := Lib.hid hr.len
  have HR := Lib.hid hr; clear hr
  by_cases h7 : 10 < n
  · have HV := Lib.hid (show fewCl rows = false by unfold fewCl; rw [decide_eq_false (by rw [HL.out]; omega)]; rfl)
    go_enter Try.func21, Try.ntmps21
    go_wp2_with fail
    go_ret
    exact ⟨by rw [HV.out]; rfl, rfl⟩
  have HV := Lib.hid (show fewCl rows = rows.all fun r => decide (r.length ≤ 10) by unfold fewCl; rw [decide_eq_true (by rw [HL.out]; omega)]; rfl)
  go_enter Try.func21, Try.ntmps21
  go_wp2_with fail
  go_loopw [3] (fun i wr => ∃ k : Nat, k ≤ n ∧ i = .int .i64 (k : Int) ∧ Hid (∀ j r, j < k → rows[j]? = some r → r.length ≤ 10) ∧ wr = w) (fun i _ => n - (intOf i).toNat)
  case atStart => exact ⟨0, by omega, rfl, fun j r hj => absurd hj (by omega), rfl⟩
  case round =>
    obtain ⟨k, hk, rfl, HF, rfl⟩ := hrel
    by_cases hlt : k < n
    · obtain ⟨b, o, r, xs, rfl, hb, hx, hc, hrow⟩ := HR.out.at_ hlt
      obtain ⟨RA, rn, rc⟩ := r
      have hxl : xs.length = rn := hrow.len
      have HX := Lib.hid hx
      have HXL := Lib.hid hxl
      dsimp only at hc
      have i0 : (0 : Int) ≤ (k : Int) := by omega
      have i1 : (k : Int) < (n : Int) := by omega
      clear hx hrow hxl
      by_cases h10 : 10 < rn
      · have HW := Lib.hid (show (rows.all fun r => decide (r.length ≤ 10)) = false by
          rw [List.all_eq_false]
          exact ⟨xs, List.mem_of_getElem? HX.out, by rw [HXL.out]; simp; omega⟩)
        go_wp2_with fail
        go_ret
        exact ⟨by rw [HV.out, HW.out]; rfl, rfl⟩
      · go_wp2_with fail
        go_roundw
        case rel => exact ⟨k + 1, by omega, by go_num, fun j z hj hz => by
          rcases Nat.lt_or_ge j k with h | h
          · exact HF.out j z h hz
          · obtain rfl : j = k := by omega
            have hxy := HX.out
            rw [hz] at hxy
            injection hxy with hxy
            rw [hxy, HXL.out]; omega, trivial⟩
        case measure => simp [intOf]; omega
    · obtain rfl : k = n := by omega
      have HW := Lib.hid (show (rows.all fun r => decide (r.length ≤ 10)) = true by
        rw [List.all_eq_true]
        intro r hr
        obtain ⟨i, hi, rfl⟩ := List.getElem_of_mem hr
        exact decide_eq_true (HF.out i _ (by rw [← HL.out]; exact hi) (List.getElem?_eq_getElem hi)))
      go_wp2_with fail
      go_ret
      exact ⟨by rw [HV.out, HW.out]; rfl, rfl⟩
theorem fewCells_is {rows : List (List Int)} {v : Bool} (h : fewCl rows = v) (A : Option Addr) (n cap : Nat) (w : World) (hr : RowsL w 1 encI A n rows) :
    Calls Try.prog 21 #[.slice A n cap] w fun e w' => e = .returned (.bool v) ∧ w = w' := h ▸ fewCells_any A n cap rows w hr
end Go.Proofs.Ytaogolnoiffgiaa
