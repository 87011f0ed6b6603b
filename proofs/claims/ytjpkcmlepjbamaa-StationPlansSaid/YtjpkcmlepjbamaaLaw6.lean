/- Arguments opened: a net by value. -/
import Derived.Test.YtjpkcmlepjbamaaLaw5
import Derived.Test.YtjpkcmlepjbamaaW11
namespace Go.Proofs.Ytjpkcmlepjbamaa
open Go.ChangeShapes Go.WideShapes Go.ChangeAt Go.RowKit Go.Sky

section
variable {H : Type} {enc : TypeId × Value → H} {w : World} {base : Nat} {spare : Nat → Bool} {held : Bool}
set_option maxRecDepth 100000 in
theorem el_pair : ∀ n l z, l.length = 2 → DataW.trod enc Try.prog w base spare held n 52 l = some z → ∃ y : Int × Int, l = encP y ∧ (i64ok y.1 ∧ i64ok y.2) := by
  intro n l z hl h
  obtain ⟨xs, m, _, _, _, hlen, hg⟩ := DataW.trod_array Try.underlying52 h
  have c3 : (Try.prog).cellsOf 3 = 1 := by kernel_rfl
  match l, hl, xs, hlen with
  | [a, b], _, [y0, y1], _ =>
    have h0 := hg 0 (by decide)
    have h1 := hg 1 (by decide)
    rw [c3] at h0 h1
    obtain ⟨s, e0, _, w0⟩ := DataW.trod_int Try.underlying3 (h0 : DataW.trod enc Try.prog w base spare held m 3 [a] = some y0)
    obtain ⟨t, e1, _, w1⟩ := DataW.trod_int Try.underlying3 (h1 : DataW.trod enc Try.prog w base spare held m 3 [b] = some y1)
    injection e0 with e0
    injection e1 with e1
    subst e0 e1
    exact ⟨⟨s, t⟩, rfl, i64ok_of w0, i64ok_of w1⟩
end

set_option maxRecDepth 100000 in
theorem net_open {H : Type} {enc : TypeId × Value → H} {W : World} {base : Nat} {v : Value} {d : DataW H} {p : List MemPlace} (hv : Value.okWide Try.prog W .any base 75 v)
    (h : DataW.Trod enc Try.prog W 0 (fun _ => true) true 75 v d p) :
    ∃ (st : Int) (A : Option Addr) (n cap : Nat) (ps : List (Int × Int)), v = .agg #[.int .i64 st, .slice A n cap] ∧ Rd W 2 encP A n ps := by
  obtain ⟨cs, rfl, hl, n, hf⟩ := open_cells Try.underlying75 (by kernel_rfl) (by kernel_rfl) hv h
  match cs, hl with
  | [e0, e1], _ =>
    obtain ⟨_, _, g0, t0⟩ := hf 0 _ rfl
    obtain ⟨_, _, g1, t1⟩ := hf 1 _ rfl
    injection g0 with g0; subst g0
    injection g1 with g1; subst g1
    obtain ⟨st, k0, _⟩ := DataW.trod_int Try.underlying3 t0
    obtain ⟨A1, n1, c1, xs1, k1, _, _, r1, _⟩ := open_rd (el := encP) Try.underlying73 (k := 2) (by kernel_rfl) (by omega) (fun y => i64ok y.1 ∧ i64ok y.2) el_pair t1
    injection k0 with k0; subst k0
    injection k1 with k1; subst k1
    exact ⟨st, A1, n1, c1, xs1, rfl, r1⟩
end Go.Proofs.Ytjpkcmlepjbamaa
