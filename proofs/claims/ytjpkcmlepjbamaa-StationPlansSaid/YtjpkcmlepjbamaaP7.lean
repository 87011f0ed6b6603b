/- StationPlans: for every net and all slots the law returns true. No condition. -/
import Derived.Test.YtjpkcmlepjbamaaLaw6
import Derived.Test.YtjpkcmlepjbamaaW42
namespace Go.Proofs.Ytjpkcmlepjbamaa
open Go.ChangeShapes Go.WideShapes Go.ChangeAt Go.RowKit Go.Sky

set_option maxRecDepth 100000 in
theorem plans_lifted (os : Os) (started : os.Started) (H : Type) (enc : TypeId × Value → H) :
    ReturnsInHanded {} Try.checked os 9 .any (Rows.stationPlansSpec.pre6 enc Try.prog Try.f9 Rows.stationPlansRow.domain false) (Rows.stationPlansSpec.post enc Try.prog Try.f9 false true false false) := by
  refine returnsInHanded_of_change (C := Try.checked) ownKnob_none started (by kernel_rfl) Try.func9
    (ChangeSpec.witness6 (enc := enc) (C := Try.checked) false ⟨#[], #[.agg #[.int .i64 0, .slice none 0 0], .slice none 0 0], []⟩ 8 (by kernel_rfl) (by kernel_rfl) (by kernel_rfl) (by kernel_rfl)) ?_
  intro W base args ds gs before hval0 hW _ _
  have hval : ∀ (j : Nat) t v, Try.f9.params[j]? = some t → args[j]? = some v → Value.okWide Try.prog W .any base t v := hval0
  have hW' := hW
  obtain ⟨p, q, hA0, hV, rfl, hfz, hnd⟩ := hW
  have hA : DataW.TrodAll enc Try.prog W 0 (fun _ => true) true Try.f9.params.toList args.toList ds p := hA0
  rw [Try.params9] at hA hval
  obtain ⟨v0, v1, d0, d1, p0, p1, rfl, rfl, rfl, h0, h1⟩ := trodAll_two hA
  obtain ⟨st, A, n, cap, ps, rfl, hr⟩ := net_open (hval 0 75 v0 rfl rfl) h0
  obtain ⟨B, L, lcap, sl, rfl, hs⟩ := ints_open (hval 1 30 v1 rfl rfl) h1
  refine (plans_any st A B n cap L lcap ps sl W hr hs).mono fun e W' ⟨he, hn⟩ => ?_
  subst he
  exact ⟨_, rfl, post_new hW' rfl laid_out (by rw [Try.params9]; decide +kernel) rfl Try.underlying4 rfl hn⟩

theorem plans_holds : Rows.StationPlansSaid :=
  OpenClaim.holds_of_wide 9 Try.f9 rfl rfl rfl rfl rfl rfl rfl ⟨rfl, rfl, rfl, rfl, rfl⟩ rfl rfl rfl rfl rfl (by kernel_rfl) Try.func9 (by kernel_rfl)
    (of_decide_eq_true (by kernel_rfl)) (by unfold Func.isWrapper; first | (rw [if_pos (by decide +kernel)]; kernel_rfl) | (rw [if_neg (by decide +kernel)]; exact ⟨rfl, rfl⟩))
    (fun os started H enc _ => plans_lifted os started H enc)
end Go.Proofs.Ytjpkcmlepjbamaa
