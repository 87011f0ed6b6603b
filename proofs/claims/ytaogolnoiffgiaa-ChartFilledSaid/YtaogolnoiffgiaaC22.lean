/- ChartFilled: for all sizes and polygons the law returns true. No condition. -/
import Derived.BigQuiet
import Derived.BigRegion
import Derived.Deep.AppendLies
import Derived.Deep.Draws
import Derived.Deep.Fields
import Derived.Deep.Quiet
import Derived.Deep.QuietTactic
import Derived.Deep.Slices
import Derived.DeepKeys4
import Derived.Laws.BitsAllLaws
import Derived.Laws.Rows
import Derived.Lib.Hide
import Derived.Lib.SliceRun
import Derived.LoopIn
import Derived.LoopNIn
import Derived.MapKept
import Derived.Maps.Keyed
import Derived.Maps.OwnIn
import Derived.Maps.OwnSet
import Derived.OpenShut
import Derived.OrdersIn
import Derived.OwnWalkIn
import Derived.ProofKit
import Derived.RangeFuncBound
import Derived.RangeFuncCalls
import Derived.RangeFuncLeaves
import Derived.RangeFuncNested
import Derived.Shelf.Abstract
import Derived.Shelf.GgSortFunc.InsertionK
import Derived.Shelf.RegionOpen
import Derived.Shelf.SlSortCmp.NoneTotal
import Derived.Shelf.SlSortCmp.QuietGrown
import Derived.Shelf.SlSortCmp.WholeK
import Derived.StillTail
import Derived.TacticsIn
import Derived.TacticsInMore
import Derived.Test.YtaogolnoiffgiaaProg
import Derived.Test.YtaogolnoiffgiaaRows
import Derived.WalkArith
import Derived.WalkKit
import Derived.WalkLawsBesides
import Derived.WalkSpells
import Derived.Test.YtaogolnoiffgiaaC22Y
import Derived.Test.YtaogolnoiffgiaaC22ZF

namespace Go.Proofs.Ytaogolnoiffgiaa
open Go.ChangeShapes Go.WideShapes Go.ChangeAt Go.RowKit Go.Sky

set_option maxRecDepth 100000 in
theorem size_open {H : Type} {enc : TypeId × Value → H} {W : World} {base : Nat} {v : Value} {d : DataW H} {p : List MemPlace} (hv : Value.okWide Try.prog W .any base 101 v)
    (h : DataW.Trod enc Try.prog W 0 (fun _ => true) true 101 v d p) : ∃ x y : Int, v = .agg #[.int .i64 x, .int .i64 y] := by
  obtain ⟨cs, rfl, hl, n, hf⟩ := open_cells Try.underlying101 (by kernel_rfl) (by kernel_rfl) hv h
  match cs, hl with
  | [e0, e1], _ =>
    obtain ⟨_, _, g0, t0⟩ := hf 0 _ rfl
    obtain ⟨_, _, g1, t1⟩ := hf 1 _ rfl
    injection g0 with g0; subst g0
    injection g1 with g1; subst g1
    obtain ⟨x, k0, _⟩ := DataW.trod_int Try.underlying3 t0
    obtain ⟨y, k1, _⟩ := DataW.trod_int Try.underlying3 t1
    injection k0 with k0; subst k0
    injection k1 with k1; subst k1
    exact ⟨x, y, rfl⟩
set_option maxRecDepth 100000 in
theorem filled_lifted (os : Os) (started : os.Started) (H : Type) (enc : TypeId × Value → H) :
    ReturnsInHanded {} Try.checked os 9 .any (Rows.chartFilledSpec.pre6 enc Try.prog Try.f9 Rows.chartFilledRow.domain false) (Rows.chartFilledSpec.post enc Try.prog Try.f9 false true false false) := by
  refine returnsInHanded_of_change (C := Try.checked) ownKnob_none started (by kernel_rfl) Try.func9
    (ChangeSpec.witness6 (enc := enc) (C := Try.checked) false ⟨#[], #[.agg #[.int .i64 0, .int .i64 0], .slice none 0 0], []⟩ 8 (by kernel_rfl) (by kernel_rfl) (by kernel_rfl) (by kernel_rfl)) ?_
  intro W base args ds gs before hval0 hW _ _
  have hval : ∀ (j : Nat) t v, Try.f9.params[j]? = some t → args[j]? = some v → Value.okWide Try.prog W .any base t v := hval0
  have hW' := hW
  obtain ⟨p, q, hA0, hV, rfl, hfz, hnd⟩ := hW
  have hA : DataW.TrodAll enc Try.prog W 0 (fun _ => true) true Try.f9.params.toList args.toList ds p := hA0
  rw [Try.params9] at hA hval
  obtain ⟨v0, v1, d0, d1, p0, p1, rfl, rfl, rfl, h0, h1⟩ := trodAll_two hA
  obtain ⟨W1, H1, rfl⟩ := size_open (hval 0 101 v0 rfl rfl) h0
  obtain ⟨A, n, cap, l, rfl, _, hr⟩ := contours_open (hval 1 47 v1 rfl rfl) h1
  refine (filled_any W1 H1 A n cap l W hr).mono fun e W' ⟨he, hn⟩ => ?_
  subst he
  exact ⟨_, rfl, post_new hW' rfl laid_out (by rw [Try.params9]; decide +kernel) rfl Try.underlying4 rfl hn⟩

theorem filled_holds : Rows.ChartFilledSaid :=
  OpenClaim.holds_of_wide 9 Try.f9 rfl rfl rfl rfl rfl rfl rfl ⟨rfl, rfl, rfl, rfl, rfl⟩ rfl rfl rfl rfl rfl (by kernel_rfl) Try.func9 (by kernel_rfl)
    (of_decide_eq_true (by kernel_rfl)) (by unfold Func.isWrapper; first | (rw [if_pos (by decide +kernel)]; kernel_rfl) | (rw [if_neg (by decide +kernel)]; exact ⟨rfl, rfl⟩))
    (fun os started H enc _ => filled_lifted os started H enc)
end Go.Proofs.Ytaogolnoiffgiaa
