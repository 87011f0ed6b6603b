/- Arguments opened: integers of a slice; a packed series by value. -/
import Derived.Test.YtjpkcmlepjbamaaLaw2
import Derived.Test.YtjpkcmlepjbamaaW1
namespace Go.Proofs.Ytjpkcmlepjbamaa
open Go.ChangeShapes Go.WideShapes Go.ChangeAt Go.RowKit Go.Sky

set_option maxRecDepth 100000 in
theorem ints_open {H : Type} {enc : TypeId × Value → H} {W : World} {v : Value} {d : DataW H} {p : List MemPlace} {base : Nat} (hv : Value.okWide Try.prog W .any base 30 v)
    (h : DataW.Trod enc Try.prog W 0 (fun _ => true) true 30 v d p) : ∃ A n cap xs, v = .slice A n cap ∧ Rd W 1 encI A n xs := by
  obtain ⟨A0, n0, c0, rfl⟩ := okWide_slice Try.underlying30 hv
  obtain ⟨fuel, hf⟩ := h
  obtain ⟨A, n, cap, xs, e, _, _, hr, _⟩ := open_rd (el := encI) Try.underlying30 (k := 1) (by kernel_rfl) (by omega) i64ok (el_int Try.underlying3) hf
  have e' : [Value.slice A0 n0 c0] = [Value.slice A n cap] := e
  injection e' with e'
  exact ⟨A, n, cap, xs, e', hr⟩

set_option maxRecDepth 100000 in
theorem packed_open {H : Type} {enc : TypeId × Value → H} {W : World} {base : Nat} {v : Value} {d : DataW H} {p : List MemPlace} (hv : Value.okWide Try.prog W .any base 58 v)
    (h : DataW.Trod enc Try.prog W 0 (fun _ => true) true 58 v d p) :
    ∃ (way : Int) (A : Option Addr) (n cap : Nat) (xs : List Int), v = .agg #[.int .i64 way, .slice A n cap] ∧ Rd W 1 encI A n xs := by
  obtain ⟨cs, rfl, hl, n, hf⟩ := open_cells Try.underlying58 (by kernel_rfl) (by kernel_rfl) hv h
  match cs, hl with
  | [e0, e1], _ =>
    obtain ⟨_, _, g0, t0⟩ := hf 0 _ rfl
    obtain ⟨_, _, g1, t1⟩ := hf 1 _ rfl
    injection g0 with g0; subst g0
    injection g1 with g1; subst g1
    obtain ⟨way, k0, _⟩ := DataW.trod_int Try.underlying3 t0
    obtain ⟨A1, n1, c1, xs1, k1, _, _, r1, _⟩ := open_rd (el := encI) Try.underlying30 (k := 1) (by kernel_rfl) (by omega) i64ok (el_int Try.underlying3) t1
    injection k0 with k0; subst k0
    injection k1 with k1; subst k1
    exact ⟨way, A1, n1, c1, xs1, rfl, r1⟩
end Go.Proofs.Ytjpkcmlepjbamaa
