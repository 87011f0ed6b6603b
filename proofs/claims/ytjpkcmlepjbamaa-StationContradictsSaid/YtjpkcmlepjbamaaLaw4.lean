/- Elements opened: exchanges. -/
import Derived.Test.YtjpkcmlepjbamaaLaw2
import Derived.Test.YtjpkcmlepjbamaaW2
namespace Go.Proofs.Ytjpkcmlepjbamaa
open Go.ChangeShapes Go.WideShapes Go.ChangeAt Go.RowKit Go.Sky

section
variable {H : Type} {enc : TypeId × Value → H} {w : World} {base : Nat} {spare : Nat → Bool} {held : Bool}
set_option maxRecDepth 100000 in
theorem el_exch : ∀ n l z, l.length = 3 → DataW.trod enc Try.prog w base spare held n 35 l = some z → ∃ y : Exch, l = encX y ∧ (i64ok y.s ∧ i64ok y.t ∧ i64ok y.r) := by
  intro n l z hl h
  obtain ⟨xs, m, _, _, _, hlen, hg⟩ := DataW.trod_struct Try.underlying35 h
  have c3 : (Try.prog).cellsOf 3 = 1 := by kernel_rfl
  match l, hl, xs, hlen with
  | [a, b, c], _, [y0, y1, y2], _ =>
    have h0 : DataW.trod enc Try.prog w base spare held m 3 (([a, b, c].drop 0).take ((Try.prog).cellsOf 3)) = some y0 := hg 0 _ rfl
    have h1 : DataW.trod enc Try.prog w base spare held m 3 (([a, b, c].drop 1).take ((Try.prog).cellsOf 3)) = some y1 := hg 1 _ rfl
    have h2 : DataW.trod enc Try.prog w base spare held m 3 (([a, b, c].drop 2).take ((Try.prog).cellsOf 3)) = some y2 := hg 2 _ rfl
    rw [c3] at h0 h1 h2
    obtain ⟨s, e0, _, w0⟩ := DataW.trod_int Try.underlying3 (h0 : DataW.trod enc Try.prog w base spare held m 3 [a] = some y0)
    obtain ⟨t, e1, _, w1⟩ := DataW.trod_int Try.underlying3 (h1 : DataW.trod enc Try.prog w base spare held m 3 [b] = some y1)
    obtain ⟨r, e2, _, w2⟩ := DataW.trod_int Try.underlying3 (h2 : DataW.trod enc Try.prog w base spare held m 3 [c] = some y2)
    injection e0 with e0
    injection e1 with e1
    injection e2 with e2
    subst e0 e1 e2
    exact ⟨⟨s, t, r⟩, rfl, i64ok_of w0, i64ok_of w1, i64ok_of w2⟩
end
set_option maxRecDepth 100000 in
theorem exchs_open {H : Type} {enc : TypeId × Value → H} {W : World} {v : Value} {d : DataW H} {p : List MemPlace} {base : Nat} (hv : Value.okWide Try.prog W .any base 33 v)
    (h : DataW.Trod enc Try.prog W 0 (fun _ => true) true 33 v d p) : ∃ A n cap xs, v = .slice A n cap ∧ Rd W 3 encX A n xs := by
  obtain ⟨A0, n0, c0, rfl⟩ := okWide_slice Try.underlying33 hv
  obtain ⟨fuel, hf⟩ := h
  obtain ⟨A, n, cap, xs, e, _, _, hr, _⟩ := open_rd (el := encX) Try.underlying33 (k := 3) (by kernel_rfl) (by omega) (fun y => i64ok y.s ∧ i64ok y.t ∧ i64ok y.r) el_exch hf
  have e' : [Value.slice A0 n0 c0] = [Value.slice A n cap] := e
  injection e' with e'
  exact ⟨A, n, cap, xs, e', hr⟩
end Go.Proofs.Ytjpkcmlepjbamaa
