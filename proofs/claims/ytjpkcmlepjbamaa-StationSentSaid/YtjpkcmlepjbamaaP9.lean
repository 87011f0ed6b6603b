/- StationSent: for all items and every link the law returns true. No condition. -/
import Derived.Test.YtjpkcmlepjbamaaLaw7
import Derived.Test.YtjpkcmlepjbamaaLaw5
import Derived.Test.YtjpkcmlepjbamaaW56
namespace Go.Proofs.Ytjpkcmlepjbamaa
open Go.ChangeShapes Go.WideShapes Go.ChangeAt Go.RowKit Go.Sky

set_option maxRecDepth 100000 in
theorem link_open {H : Type} {enc : TypeId × Value → H} {W : World} {base : Nat} {v : Value} {d : DataW H} {p : List MemPlace} (hv : Value.okWide Try.prog W .any base 96 v)
    (h : DataW.Trod enc Try.prog W 0 (fun _ => true) true 96 v d p) :
    ∃ (b u : Int), v = .agg #[.int .i64 b, .int .i64 u] := by
  obtain ⟨cs, rfl, hl, n, hf⟩ := open_cells Try.underlying96 (by kernel_rfl) (by kernel_rfl) hv h
  match cs, hl with
  | [e0, e1], _ =>
    obtain ⟨_, _, g0, t0⟩ := hf 0 _ rfl
    obtain ⟨_, _, g1, t1⟩ := hf 1 _ rfl
    injection g0 with g0; subst g0
    injection g1 with g1; subst g1
    obtain ⟨b, k0, _⟩ := DataW.trod_int Try.underlying3 t0
    obtain ⟨u, k1, _⟩ := DataW.trod_int Try.underlying3 t1
    injection k0 with k0; subst k0
    injection k1 with k1; subst k1
    exact ⟨b, u, rfl⟩

set_option maxRecDepth 100000 in
theorem sent_lifted (os : Os) (started : os.Started) (H : Type) (enc : TypeId × Value → H) :
    ReturnsInHanded {} Try.checked os 11 .any (Rows.stationSentSpec.pre6 enc Try.prog Try.f11 Rows.stationSentRow.domain false) (Rows.stationSentSpec.post enc Try.prog Try.f11 false true false false) := by
  refine returnsInHanded_of_change (C := Try.checked) ownKnob_none started (by kernel_rfl) Try.func11
    (ChangeSpec.witness6 (enc := enc) (C := Try.checked) false ⟨#[], #[.slice none 0 0, .agg #[.int .i64 0, .int .i64 0]], []⟩ 8 (by kernel_rfl) (by kernel_rfl) (by kernel_rfl) (by kernel_rfl)) ?_
  intro W base args ds gs before hval0 hW _ _
  have hval : ∀ (j : Nat) t v, Try.f11.params[j]? = some t → args[j]? = some v → Value.okWide Try.prog W .any base t v := hval0
  have hW' := hW
  obtain ⟨p, q, hA0, hV, rfl, hfz, hnd⟩ := hW
  have hA : DataW.TrodAll enc Try.prog W 0 (fun _ => true) true Try.f11.params.toList args.toList ds p := hA0
  rw [Try.params11] at hA hval
  obtain ⟨v0, v1, d0, d1, p0, p1, rfl, rfl, rfl, h0, h1⟩ := trodAll_two hA
  obtain ⟨A, n, cap, xs, rfl, hcap, hr, _⟩ := items_open (hval 0 88 v0 rfl rfl) h0
  obtain ⟨b, u, rfl⟩ := link_open (hval 1 96 v1 rfl rfl) h1
  refine (sent_any b u A n cap xs W hcap hr).mono fun e W' ⟨he, hn⟩ => ?_
  subst he
  exact ⟨_, rfl, post_new hW' rfl laid_out (by rw [Try.params11]; decide +kernel) rfl Try.underlying4 rfl hn⟩

theorem sent_holds : Rows.StationSentSaid :=
  OpenClaim.holds_of_wide 11 Try.f11 rfl rfl rfl rfl rfl rfl rfl ⟨rfl, rfl, rfl, rfl, rfl⟩ rfl rfl rfl rfl rfl (by kernel_rfl) Try.func11 (by kernel_rfl)
    (of_decide_eq_true (by kernel_rfl)) (by unfold Func.isWrapper; first | (rw [if_pos (by decide +kernel)]; kernel_rfl) | (rw [if_neg (by decide +kernel)]; exact ⟨rfl, rfl⟩))
    (fun os started H enc _ => sent_lifted os started H enc)
end Go.Proofs.Ytjpkcmlepjbamaa
