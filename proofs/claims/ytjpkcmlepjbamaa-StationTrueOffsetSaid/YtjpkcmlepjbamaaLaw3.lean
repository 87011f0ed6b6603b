/- A clock of the law, opened. -/
import Derived.Test.YtjpkcmlepjbamaaLaw2
import Derived.Test.YtjpkcmlepjbamaaW1
namespace Go.Proofs.Ytjpkcmlepjbamaa
open Go.ChangeShapes Go.WideShapes Go.ChangeAt Go.RowKit Go.Sky

set_option maxRecDepth 100000 in
theorem clock_open {H : Type} {enc : TypeId × Value → H} {W : World} {base : Nat} {v : Value} {d : DataW H} {p : List MemPlace} (hv : Value.okWide Try.prog W .any base 32 v)
    (h : DataW.Trod enc Try.prog W 0 (fun _ => true) true 32 v d p) :
    ∃ (off ch : Int) (A1 A2 A3 : Option Addr) (n1 n2 n3 c1 c2 c3 : Nat) (xs1 xs2 xs3 : List Int), v = .agg #[.int .i64 off, .int .i64 ch, .slice A1 n1 c1, .slice A2 n2 c2, .slice A3 n3 c3] ∧
      Rd W 1 encI A1 n1 xs1 ∧ Rd W 1 encI A2 n2 xs2 ∧ Rd W 1 encI A3 n3 xs3 := by
  obtain ⟨cs, rfl, hl, n, hf⟩ := open_cells Try.underlying32 (by kernel_rfl) (by kernel_rfl) hv h
  match cs, hl with
  | [e0, e1, e2, e3, e4], _ =>
    obtain ⟨_, _, g0, t0⟩ := hf 0 _ rfl
    obtain ⟨_, _, g1, t1⟩ := hf 1 _ rfl
    obtain ⟨_, _, g2, t2⟩ := hf 2 _ rfl
    obtain ⟨_, _, g3, t3⟩ := hf 3 _ rfl
    obtain ⟨_, _, g4, t4⟩ := hf 4 _ rfl
    injection g0 with g0; subst g0
    injection g1 with g1; subst g1
    injection g2 with g2; subst g2
    injection g3 with g3; subst g3
    injection g4 with g4; subst g4
    obtain ⟨off, k0, _⟩ := DataW.trod_int Try.underlying3 t0
    obtain ⟨ch, k1, _⟩ := DataW.trod_int Try.underlying3 t1
    obtain ⟨A1, n1, c1, xs1, k2, _, _, r1, _⟩ := open_rd (el := encI) Try.underlying30 (k := 1) (by kernel_rfl) (by omega) i64ok (el_int Try.underlying3) t2
    obtain ⟨A2, n2, c2, xs2, k3, _, _, r2, _⟩ := open_rd (el := encI) Try.underlying30 (k := 1) (by kernel_rfl) (by omega) i64ok (el_int Try.underlying3) t3
    obtain ⟨A3, n3, c3, xs3, k4, _, _, r3, _⟩ := open_rd (el := encI) Try.underlying30 (k := 1) (by kernel_rfl) (by omega) i64ok (el_int Try.underlying3) t4
    injection k0 with k0; subst k0
    injection k1 with k1; subst k1
    injection k2 with k2; subst k2
    injection k3 with k3; subst k3
    injection k4 with k4; subst k4
    exact ⟨off, ch, A1, A2, A3, n1, n2, n3, c1, c2, c3, xs1, xs2, xs3, rfl, r1, r2, r3⟩

end Go.Proofs.Ytjpkcmlepjbamaa
