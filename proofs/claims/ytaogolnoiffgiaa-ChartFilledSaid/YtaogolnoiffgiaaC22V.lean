/- A vector of the law, opened; two numbers. -/
import Derived.BigQuiet
import Derived.Deep.AppendLies
import Derived.Deep.Draws
import Derived.Deep.Fields
import Derived.Deep.Quiet
import Derived.Deep.QuietTactic
import Derived.Deep.Slices
import Derived.Lib.Hide
import Derived.MapKept
import Derived.Maps.Keyed
import Derived.OpenShut
import Derived.OrdersIn
import Derived.OwnWalkIn
import Derived.ProofKit
import Derived.RangeFuncCalls
import Derived.Shelf.RegionOpen
import Derived.StillTail
import Derived.TacticsIn
import Derived.Test.YtaogolnoiffgiaaProg
import Derived.Test.YtaogolnoiffgiaaRows
import Derived.WalkKit
import Derived.WalkLawsBesides
import Derived.WalkSpells
import Derived.Test.YtaogolnoiffgiaaC22K
import Derived.Test.YtaogolnoiffgiaaC22M

namespace Go.Proofs.Ytaogolnoiffgiaa
open Go.ChangeShapes Go.WideShapes Go.ChangeAt Go.RowKit Go.Sky Go.Sky.Ch

set_option maxRecDepth 100000 in
theorem vec_open {H : Type} {enc : TypeId × Value → H} {W : World} {base : Nat} {v : Value} {d : DataW H} {p : List MemPlace} (hv : Value.okWide Try.prog W .any base 59 v)
    (h : DataW.Trod enc Try.prog W 0 (fun _ => true) true 59 v d p) : ∃ u : Ve, v = .agg #[.int .i64 u.x, .int .i64 u.y, .int .i64 u.z] := by
  obtain ⟨cs, rfl, hl, n, hf⟩ := open_cells Try.underlying59 (by kernel_rfl) (by kernel_rfl) hv h
  match cs, hl with
  | [e0, e1, e2], _ =>
    obtain ⟨_, _, g0, t0⟩ := hf 0 _ rfl
    obtain ⟨_, _, g1, t1⟩ := hf 1 _ rfl
    obtain ⟨_, _, g2, t2⟩ := hf 2 _ rfl
    injection g0 with g0; subst g0
    injection g1 with g1; subst g1
    injection g2 with g2; subst g2
    obtain ⟨x, k0, _⟩ := DataW.trod_int Try.underlying3 t0
    obtain ⟨y, k1, _⟩ := DataW.trod_int Try.underlying3 t1
    obtain ⟨z, k2, _⟩ := DataW.trod_int Try.underlying3 t2
    injection k0 with k0; subst k0
    injection k1 with k1; subst k1
    injection k2 with k2; subst k2
    exact ⟨⟨x, y, z⟩, rfl⟩
set_option maxRecDepth 100000 in
theorem two_open {H : Type} {enc : TypeId × Value → H} {W : World} {base : Nat} {v : Value} {d : DataW H} {p : List MemPlace} (hv : Value.okWide Try.prog W .any base 60 v)
    (h : DataW.Trod enc Try.prog W 0 (fun _ => true) true 60 v d p) : ∃ x y : Int, v = .agg #[.int .i64 x, .int .i64 y] := by
  have hu := Try.underlying60
  have hc : (Try.prog).cellsOf 3 = 1 := by kernel_rfl
  have hc2 : (Try.prog).cellsOf 60 = 2 := by kernel_rfl
  have hv' := hv
  simp only [Value.okWide, hu] at hv'
  obtain ⟨cs, rfl, hs, _⟩ := hv'
  obtain ⟨fuel, hf⟩ := h
  have hl : cs.toList.length = 2 := by
    rw [← hc2, ← hs]
    simp
  obtain ⟨y, e, _⟩ := el_pair fuel cs.toList _ hl hf
  refine ⟨y.1, y.2, ?_⟩
  have e2 : cs = (encP y).toArray := by rw [← e]
  rw [e2]
  rfl
end Go.Proofs.Ytaogolnoiffgiaa
