/- Contracts: the side with which a contour goes on. -/
import Derived.BigQuiet
import Derived.BigRegion
import Derived.Deep.AppendLies
import Derived.Deep.Draws
import Derived.Deep.Quiet
import Derived.Deep.QuietTactic
import Derived.DeepKeys4
import Derived.Laws.BitsAllLaws
import Derived.Laws.Rows
import Derived.Lib.Hide
import Derived.Lib.SliceRun
import Derived.MapKept
import Derived.Maps.Keyed
import Derived.OrdersIn
import Derived.OwnWalkIn
import Derived.RangeFuncCalls
import Derived.Shelf.GgSortFunc.InsertionK
import Derived.Shelf.RegionOpen
import Derived.Shelf.SlSortCmp.NoneTotal
import Derived.Shelf.SlSortCmp.QuietGrown
import Derived.Shelf.SlSortCmp.WholeK
import Derived.StillTail
import Derived.TacticsIn
import Derived.Test.YtaogolnoiffgiaaProg
import Derived.WalkArith
import Derived.WalkKit
import Derived.WalkLawsBesides
import Derived.WalkSpells
import Derived.Test.YtaogolnoiffgiaaC22K
import Derived.Test.YtaogolnoiffgiaaC22Z

namespace Go.Proofs.Ytaogolnoiffgiaa
open Go.RowKit Go.Sky Go.Sky.Ch Go.Sort

set_option maxRecDepth 100000 in
set_option maxHeartbeats 8000000 in
theorem cFollowing_any (R : List Sd) (s : Sd) (mb : Nat) (w : World) (hx : -100 ≤ s.x ∧ s.x ≤ 100) (hy : -100 ≤ s.y ∧ s.y ≤ 100) (hd : 0 ≤ s.d ∧ s.d ≤ 3) (hm : Mg okSd encSdV (fun b : Bool => Value.bool b) w mb (restF R)) :
    Calls Try.prog 88 #[.map (some mb), .agg #[.int .i64 s.x, .int .i64 s.y, .int .i64 s.d]] w fun e w' => e = .returned (.agg #[.int .i64 (followS R s).x, .int .i64 (followS R s).y, .int .i64 (followS R s).d]) ∧ New w w' := by
  obtain ⟨x, y, d⟩ := s
  dsimp only at hx hy hd ⊢
  have N0 := ((New.refl w).alloc (.cells #[.int .i64 x, .int .i64 y, .int .i64 d] 152)).alloc (.cells #[.int .i64 0, .int .i64 0, .int .i64 0] 152)
  have b0 := (Bx.mk w 152 #[.int .i64 x, .int .i64 y, .int .i64 d]).alloc (.cells #[.int .i64 0, .int .i64 0, .int .i64 0] 152)
  have c0 := Bx.mk_at (w.alloc (.cells #[.int .i64 x, .int .i64 y, .int .i64 d] 152)) 152 #[.int .i64 0, .int .i64 0, .int .i64 0] (w.heap.size + 1) (by simp)
  obtain ⟨W2, hW2⟩ : ∃ W2, (w.alloc (.cells #[.int .i64 x, .int .i64 y, .int .i64 d] 152)).alloc (.cells #[.int .i64 0, .int .i64 0, .int .i64 0] 152) = W2 := ⟨_, rfl⟩
  rw [hW2] at N0 b0 c0
  have k0 : W2.cell? ⟨w.heap.size, 0, none⟩ = some (.int .i64 x) := b0.cell 0
  have k1 : W2.cell? ⟨w.heap.size, 1, none⟩ = some (.int .i64 y) := b0.cell 1
  have k2 : W2.cell? ⟨w.heap.size, 2, none⟩ = some (.int .i64 d) := b0.cell 2
  have l0 := b0.lt
  have l1 := c0.lt
  have HM := Lib.hid (hm.keep N0)
  have HX := Lib.hid hx
  have HY := Lib.hid hy
  have hdx := dxS_le d
  have hdy := dyS_le d
  clear hm
  go_enter Try.func88, Try.ntmps88
  go_wp2_with fail
  refine (cMoved_any x y d _ (by omega) (by omega) hd).mono ?_
  rintro e w4 ⟨rfl, n4⟩
  obtain ⟨ax, hax⟩ : ∃ v, x + dxS d = v := ⟨_, rfl⟩
  obtain ⟨ay, hay⟩ : ∃ v, y + dyS d = v := ⟨_, rfl⟩
  rw [hax, hay]
  have B0 := (b0.keep n4).alloc (.cells #[.int .i64 ax, .int .i64 ay] 73)
  have C0 := (c0.keep n4).alloc (.cells #[.int .i64 ax, .int .i64 ay] 73)
  have A0 := Bx.mk w4 73 #[.int .i64 ax, .int .i64 ay]
  have N4 := (N0.trans n4).alloc (.cells #[.int .i64 ax, .int .i64 ay] 73)
  have M4 := Lib.hid ((HM.out.keep n4).alloc (.cells #[.int .i64 ax, .int .i64 ay] 73))
  obtain ⟨W5, hW5⟩ : ∃ W5, w4.alloc (.cells #[.int .i64 ax, .int .i64 ay] 73) = W5 := ⟨_, rfl⟩
  rw [hW5] at B0 C0 N4 A0 M4
  obtain ⟨ab, hab⟩ : ∃ b, w4.heap.size = b := ⟨_, rfl⟩
  rw [hab] at A0
  go_wp2_with fail
  try rw [hW5]
  try rw [hab]
  obtain ⟨sb, hsb⟩ : ∃ b, w.heap.size = b := ⟨_, rfl⟩
  rw [hsb] at B0 C0 l0 l1 k0 k1 k2 ⊢
  have hsb1 : sb + 1 < W5.heap.size := C0.lt
  have B5 := Lib.hid B0
  have C5 := Lib.hid C0
  have A5 := Lib.hid A0
  have HF := Lib.hid (show followS R ⟨x, y, d⟩ = if (⟨ax, ay, (d + 1) % 4⟩ : Sd) ∈ R then ⟨ax, ay, (d + 1) % 4⟩ else if (⟨ax, ay, d % 4⟩ : Sd) ∈ R then ⟨ax, ay, d % 4⟩ else if (⟨ax, ay, (d + 3) % 4⟩ : Sd) ∈ R then ⟨ax, ay, (d + 3) % 4⟩ else ⟨x, y, d⟩ by subst hax hay; unfold followS nextS; simp only [Int.add_zero])
  have hax' : -1000 ≤ ax ∧ ax ≤ 1000 := by omega
  have hay' : -1000 ≤ ay ∧ ay ≤ 1000 := by omega
  have hge : w.heap.size ≤ sb + 1 := by omega
  clear B0 C0 A0 b0 c0 N0 HM hW2 hW5 n4 k0 k1 k2 l0 l1 HX HY hax hay hdx hdy hx hy hab
  go_loopw [15] (fun i wr => ∃ k : Nat, k ≤ 3 ∧ i = .int .i64 (k : Int) ∧ Hid (∀ j, j < k → (⟨ax, ay, (if j = 0 then (d + 1) % 4 else if j = 1 then d % 4 else (d + 3) % 4)⟩ : Sd) ∉ R) ∧ New W5 wr) (fun i _ => 3 - (intOf i).toNat)
  case atStart => exact ⟨0, by omega, rfl, fun j hj => absurd hj (by omega), New.refl _⟩
  case round =>
    obtain ⟨k, hk, rfl, HT, hN⟩ := hrel
    have B6 := B5.out.keep hN
    have C6 := C5.out.keep hN
    have A6 := A5.out.keep hN
    have N6 := N4.trans hN
    have M6 := M4.out.keep hN
    rcases (show k = 3 ∨ k = 0 ∨ k = 1 ∨ k = 2 by omega) with rfl | rfl | rfl | rfl
    · have k0 := B6.cell 0
      have k1 := B6.cell 1
      have k2 := B6.cell 2
      have r0 := C6.cell 0
      have r1 := C6.cell 1
      have r2 := C6.cell 2
      have f0 := C6.free 0
      have f1 := C6.free 1
      have f2 := C6.free 2
      have lb := B6.lt
      have lc := C6.lt
      simp only [List.getElem?_toArray, List.getElem?_cons_zero, List.getElem?_cons_succ] at k0 k1 k2 r0 r1 r2
      have HC := Lib.hid (((C6.set 0 (.int .i64 x)).set 1 (.int .i64 y)).set 2 (.int .i64 d))
      have HN := Lib.hid (((N6.setCell (p := ⟨sb + 1, 0, none⟩) hge (.int .i64 x)).setCell (p := ⟨sb + 1, 1, none⟩) hge (.int .i64 y)).setCell (p := ⟨sb + 1, 2, none⟩) hge (.int .i64 d))
      have t0 : (⟨ax, ay, (d + 1) % 4⟩ : Sd) ∉ R := HT.out 0 (by omega)
      have t1 : (⟨ax, ay, d % 4⟩ : Sd) ∉ R := HT.out 1 (by omega)
      have t2 : (⟨ax, ay, (d + 3) % 4⟩ : Sd) ∉ R := HT.out 2 (by omega)
      have HV := Lib.hid (show followS R ⟨x, y, d⟩ = ⟨x, y, d⟩ by rw [HF.out, if_neg t0, if_neg t1, if_neg t2])
      clear B6 C6 A6 N6 M6 t0 t1 t2 HF HT
      go_wp2_with fail
      (try simp only [Exit.inBlock, Exit.then])
      refine bodyPost_ret (results_cell_row rfl _ _ (sb + 1) 152 #[.int .i64 x, .int .i64 y, .int .i64 d] (0, 0) _ rfl HC.out Try.underlying152 rfl (by kernel_rfl)) rfl ?_
      exact ⟨by rw [HV.out], HN.out⟩
    · have hq : -3 ≤ (d + 1) % 4 ∧ (d + 1) % 4 ≤ 3 := by omega
      have B7 := B6.alloc (.cells #[.int .i64 ax, .int .i64 ay, .int .i64 ((d + 1) % 4)] 152)
      have C7 := C6.alloc (.cells #[.int .i64 ax, .int .i64 ay, .int .i64 ((d + 1) % 4)] 152)
      have S7 := Bx.mk wr 152 #[.int .i64 ax, .int .i64 ay, .int .i64 ((d + 1) % 4)]
      have N7 := N6.alloc (.cells #[.int .i64 ax, .int .i64 ay, .int .i64 ((d + 1) % 4)] 152)
      have n7 := hN.alloc (.cells #[.int .i64 ax, .int .i64 ay, .int .i64 ((d + 1) % 4)] 152)
      have M7 := Lib.hid (M6.alloc (.cells #[.int .i64 ax, .int .i64 ay, .int .i64 ((d + 1) % 4)] 152))
      have k2 := B6.cell 2
      have a0 := A6.cell 0
      have a1 := A6.cell 1
      have lb := B6.lt
      have la := A6.lt
      simp only [List.getElem?_toArray, List.getElem?_cons_zero, List.getElem?_cons_succ] at k2 a0 a1
      obtain ⟨W7, hW7⟩ : ∃ W7, wr.alloc (.cells #[.int .i64 ax, .int .i64 ay, .int .i64 ((d + 1) % 4)] 152) = W7 := ⟨_, rfl⟩
      rw [hW7] at B7 C7 S7 N7 n7 M7
      have s0 := S7.cell 0
      have s1 := S7.cell 1
      have s2 := S7.cell 2
      have ls := S7.lt
      have lc := C7.lt
      have r0 := C7.cell 0
      have r1 := C7.cell 1
      have r2 := C7.cell 2
      have f0 := C7.free 0
      have f1 := C7.free 1
      have f2 := C7.free 2
      simp only [List.getElem?_toArray, List.getElem?_cons_zero, List.getElem?_cons_succ] at s0 s1 s2 r0 r1 r2
      have HG := Lib.hid (rest_get R ⟨ax, ay, (d + 1) % 4⟩)
      have HOK := Lib.hid (show okSd ⟨ax, ay, (d + 1) % 4⟩ from ⟨hax', hay', by show -1000 ≤ (d + 1) % 4 ∧ (d + 1) % 4 ≤ 1000; omega⟩)
      have ix : ∀ W, (Instr.index 209 (.agg #[.int .i64 1, .int .i64 0, .int .i64 3]) (.int .i64 0)).run Try.prog W = .ok (.int .i64 1) W := fun _ => by kernel_rfl
      have HC := Lib.hid (((C7.set 0 (.int .i64 ax)).set 1 (.int .i64 ay)).set 2 (.int .i64 ((d + 1) % 4)))
      have HN := Lib.hid (((N7.setCell (p := ⟨sb + 1, 0, none⟩) hge (.int .i64 ax)).setCell (p := ⟨sb + 1, 1, none⟩) hge (.int .i64 ay)).setCell (p := ⟨sb + 1, 2, none⟩) hge (.int .i64 ((d + 1) % 4)))
      by_cases hin : (⟨ax, ay, (d + 1) % 4⟩ : Sd) ∈ R
      · rw [decide_eq_true hin] at HG
        have HV := Lib.hid (show followS R ⟨x, y, d⟩ = ⟨ax, ay, (d + 1) % 4⟩ by rw [HF.out, if_pos hin])
        clear B6 C6 A6 N6 M6 B7 C7 S7 N7 n7 hin  HF HT
        go_wp2_with (first | (at_lookup; refine wpList_mgGet1 mapSd _ rfl _ _ rfl mb _ ⟨ax, ay, (d + 1) % 4⟩ _ rfl M7.out HOK.out rfl HG.out ?_))
        (try simp only [Exit.inBlock, Exit.then])
        refine bodyPost_ret (results_cell_row rfl _ _ (sb + 1) 152 #[.int .i64 ax, .int .i64 ay, .int .i64 ((d + 1) % 4)] (0, 0) _ rfl HC.out Try.underlying152 rfl (by kernel_rfl)) rfl ?_
        exact ⟨by rw [HV.out], HN.out⟩
      · rw [decide_eq_false hin] at HG
        have HTN := Lib.hid (show ∀ j, j < 0 + 1 → (⟨ax, ay, (if j = 0 then (d + 1) % 4 else if j = 1 then d % 4 else (d + 3) % 4)⟩ : Sd) ∉ R by
          intro j hj
          rcases Nat.lt_or_ge j 0 with h | h
          · exact HT.out j h
          · obtain rfl : j = 0 := by omega
            exact hin)
        clear B6 C6 A6 N6 M6 B7 C7 S7 N7 hin HF HT
        go_wp2_with (first | (at_lookup; refine wpList_mgGet1 mapSd _ rfl _ _ rfl mb _ ⟨ax, ay, (d + 1) % 4⟩ _ rfl M7.out HOK.out rfl HG.out ?_))
        go_roundw
        case rel => exact ⟨0 + 1, by omega, rfl, HTN.out, n7⟩
        case measure => simp [intOf]
    · have hq : -3 ≤ d % 4 ∧ d % 4 ≤ 3 := by omega
      have B7 := B6.alloc (.cells #[.int .i64 ax, .int .i64 ay, .int .i64 (d % 4)] 152)
      have C7 := C6.alloc (.cells #[.int .i64 ax, .int .i64 ay, .int .i64 (d % 4)] 152)
      have S7 := Bx.mk wr 152 #[.int .i64 ax, .int .i64 ay, .int .i64 (d % 4)]
      have N7 := N6.alloc (.cells #[.int .i64 ax, .int .i64 ay, .int .i64 (d % 4)] 152)
      have n7 := hN.alloc (.cells #[.int .i64 ax, .int .i64 ay, .int .i64 (d % 4)] 152)
      have M7 := Lib.hid (M6.alloc (.cells #[.int .i64 ax, .int .i64 ay, .int .i64 (d % 4)] 152))
      have k2 := B6.cell 2
      have a0 := A6.cell 0
      have a1 := A6.cell 1
      have lb := B6.lt
      have la := A6.lt
      simp only [List.getElem?_toArray, List.getElem?_cons_zero, List.getElem?_cons_succ] at k2 a0 a1
      obtain ⟨W7, hW7⟩ : ∃ W7, wr.alloc (.cells #[.int .i64 ax, .int .i64 ay, .int .i64 (d % 4)] 152) = W7 := ⟨_, rfl⟩
      rw [hW7] at B7 C7 S7 N7 n7 M7
      have s0 := S7.cell 0
      have s1 := S7.cell 1
      have s2 := S7.cell 2
      have ls := S7.lt
      have lc := C7.lt
      have r0 := C7.cell 0
      have r1 := C7.cell 1
      have r2 := C7.cell 2
      have f0 := C7.free 0
      have f1 := C7.free 1
      have f2 := C7.free 2
      simp only [List.getElem?_toArray, List.getElem?_cons_zero, List.getElem?_cons_succ] at s0 s1 s2 r0 r1 r2
      have HG := Lib.hid (rest_get R ⟨ax, ay, d % 4⟩)
      have HOK := Lib.hid (show okSd ⟨ax, ay, d % 4⟩ from ⟨hax', hay', by show -1000 ≤ d % 4 ∧ d % 4 ≤ 1000; omega⟩)
      have ix : ∀ W, (Instr.index 209 (.agg #[.int .i64 1, .int .i64 0, .int .i64 3]) (.int .i64 1)).run Try.prog W = .ok (.int .i64 0) W := fun _ => by kernel_rfl
      have HC := Lib.hid (((C7.set 0 (.int .i64 ax)).set 1 (.int .i64 ay)).set 2 (.int .i64 (d % 4)))
      have HN := Lib.hid (((N7.setCell (p := ⟨sb + 1, 0, none⟩) hge (.int .i64 ax)).setCell (p := ⟨sb + 1, 1, none⟩) hge (.int .i64 ay)).setCell (p := ⟨sb + 1, 2, none⟩) hge (.int .i64 (d % 4)))
      by_cases hin : (⟨ax, ay, d % 4⟩ : Sd) ∈ R
      · rw [decide_eq_true hin] at HG
        have t0 : (⟨ax, ay, (d + 1) % 4⟩ : Sd) ∉ R := HT.out 0 (by omega)
        have HV := Lib.hid (show followS R ⟨x, y, d⟩ = ⟨ax, ay, d % 4⟩ by rw [HF.out, if_neg t0, if_pos hin])
        clear B6 C6 A6 N6 M6 B7 C7 S7 N7 n7 hin t0 HF HT
        go_wp2_with (first | (at_lookup; refine wpList_mgGet1 mapSd _ rfl _ _ rfl mb _ ⟨ax, ay, d % 4⟩ _ rfl M7.out HOK.out rfl HG.out ?_))
        (try simp only [Exit.inBlock, Exit.then])
        refine bodyPost_ret (results_cell_row rfl _ _ (sb + 1) 152 #[.int .i64 ax, .int .i64 ay, .int .i64 (d % 4)] (0, 0) _ rfl HC.out Try.underlying152 rfl (by kernel_rfl)) rfl ?_
        exact ⟨by rw [HV.out], HN.out⟩
      · rw [decide_eq_false hin] at HG
        have HTN := Lib.hid (show ∀ j, j < 1 + 1 → (⟨ax, ay, (if j = 0 then (d + 1) % 4 else if j = 1 then d % 4 else (d + 3) % 4)⟩ : Sd) ∉ R by
          intro j hj
          rcases Nat.lt_or_ge j 1 with h | h
          · exact HT.out j h
          · obtain rfl : j = 1 := by omega
            exact hin)
        clear B6 C6 A6 N6 M6 B7 C7 S7 N7 hin HF HT
        go_wp2_with (first | (at_lookup; refine wpList_mgGet1 mapSd _ rfl _ _ rfl mb _ ⟨ax, ay, d % 4⟩ _ rfl M7.out HOK.out rfl HG.out ?_))
        go_roundw
        case rel => exact ⟨1 + 1, by omega, rfl, HTN.out, n7⟩
        case measure => simp [intOf]
    · have hq : -3 ≤ (d + 3) % 4 ∧ (d + 3) % 4 ≤ 3 := by omega
      have B7 := B6.alloc (.cells #[.int .i64 ax, .int .i64 ay, .int .i64 ((d + 3) % 4)] 152)
      have C7 := C6.alloc (.cells #[.int .i64 ax, .int .i64 ay, .int .i64 ((d + 3) % 4)] 152)
      have S7 := Bx.mk wr 152 #[.int .i64 ax, .int .i64 ay, .int .i64 ((d + 3) % 4)]
      have N7 := N6.alloc (.cells #[.int .i64 ax, .int .i64 ay, .int .i64 ((d + 3) % 4)] 152)
      have n7 := hN.alloc (.cells #[.int .i64 ax, .int .i64 ay, .int .i64 ((d + 3) % 4)] 152)
      have M7 := Lib.hid (M6.alloc (.cells #[.int .i64 ax, .int .i64 ay, .int .i64 ((d + 3) % 4)] 152))
      have k2 := B6.cell 2
      have a0 := A6.cell 0
      have a1 := A6.cell 1
      have lb := B6.lt
      have la := A6.lt
      simp only [List.getElem?_toArray, List.getElem?_cons_zero, List.getElem?_cons_succ] at k2 a0 a1
      obtain ⟨W7, hW7⟩ : ∃ W7, wr.alloc (.cells #[.int .i64 ax, .int .i64 ay, .int .i64 ((d + 3) % 4)] 152) = W7 := ⟨_, rfl⟩
      rw [hW7] at B7 C7 S7 N7 n7 M7
      have s0 := S7.cell 0
      have s1 := S7.cell 1
      have s2 := S7.cell 2
      have ls := S7.lt
      have lc := C7.lt
      have r0 := C7.cell 0
      have r1 := C7.cell 1
      have r2 := C7.cell 2
      have f0 := C7.free 0
      have f1 := C7.free 1
      have f2 := C7.free 2
      simp only [List.getElem?_toArray, List.getElem?_cons_zero, List.getElem?_cons_succ] at s0 s1 s2 r0 r1 r2
      have HG := Lib.hid (rest_get R ⟨ax, ay, (d + 3) % 4⟩)
      have HOK := Lib.hid (show okSd ⟨ax, ay, (d + 3) % 4⟩ from ⟨hax', hay', by show -1000 ≤ (d + 3) % 4 ∧ (d + 3) % 4 ≤ 1000; omega⟩)
      have ix : ∀ W, (Instr.index 209 (.agg #[.int .i64 1, .int .i64 0, .int .i64 3]) (.int .i64 2)).run Try.prog W = .ok (.int .i64 3) W := fun _ => by kernel_rfl
      have HC := Lib.hid (((C7.set 0 (.int .i64 ax)).set 1 (.int .i64 ay)).set 2 (.int .i64 ((d + 3) % 4)))
      have HN := Lib.hid (((N7.setCell (p := ⟨sb + 1, 0, none⟩) hge (.int .i64 ax)).setCell (p := ⟨sb + 1, 1, none⟩) hge (.int .i64 ay)).setCell (p := ⟨sb + 1, 2, none⟩) hge (.int .i64 ((d + 3) % 4)))
      by_cases hin : (⟨ax, ay, (d + 3) % 4⟩ : Sd) ∈ R
      · rw [decide_eq_true hin] at HG
        have t0 : (⟨ax, ay, (d + 1) % 4⟩ : Sd) ∉ R := HT.out 0 (by omega)
        have t1 : (⟨ax, ay, d % 4⟩ : Sd) ∉ R := HT.out 1 (by omega)
        have HV := Lib.hid (show followS R ⟨x, y, d⟩ = ⟨ax, ay, (d + 3) % 4⟩ by rw [HF.out, if_neg t0, if_neg t1, if_pos hin])
        clear B6 C6 A6 N6 M6 B7 C7 S7 N7 n7 hin t0 t1 HF HT
        go_wp2_with (first | (at_lookup; refine wpList_mgGet1 mapSd _ rfl _ _ rfl mb _ ⟨ax, ay, (d + 3) % 4⟩ _ rfl M7.out HOK.out rfl HG.out ?_))
        (try simp only [Exit.inBlock, Exit.then])
        refine bodyPost_ret (results_cell_row rfl _ _ (sb + 1) 152 #[.int .i64 ax, .int .i64 ay, .int .i64 ((d + 3) % 4)] (0, 0) _ rfl HC.out Try.underlying152 rfl (by kernel_rfl)) rfl ?_
        exact ⟨by rw [HV.out], HN.out⟩
      · rw [decide_eq_false hin] at HG
        have HTN := Lib.hid (show ∀ j, j < 2 + 1 → (⟨ax, ay, (if j = 0 then (d + 1) % 4 else if j = 1 then d % 4 else (d + 3) % 4)⟩ : Sd) ∉ R by
          intro j hj
          rcases Nat.lt_or_ge j 2 with h | h
          · exact HT.out j h
          · obtain rfl : j = 2 := by omega
            exact hin)
        clear B6 C6 A6 N6 M6 B7 C7 S7 N7 hin HF HT
        go_wp2_with (first | (at_lookup; refine wpList_mgGet1 mapSd _ rfl _ _ rfl mb _ ⟨ax, ay, (d + 3) % 4⟩ _ rfl M7.out HOK.out rfl HG.out ?_))
        go_roundw
        case rel => exact ⟨2 + 1, by omega, rfl, HTN.out, n7⟩
        case measure => simp [intOf]
end Go.Proofs.Ytaogolnoiffgiaa
