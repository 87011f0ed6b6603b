/- A clock of the law, opened.
   Arguments opened: integers of a slice; a packed series by value.
   Arguments opened: a net by value. -/
import Derived.BigQuiet
import Derived.Deep.AppendLies
import Derived.Deep.Draws
import Derived.Deep.Fields
import Derived.Deep.Quiet
import Derived.Deep.QuietTactic
import Derived.Deep.Slices
import Derived.Lib.Hide
import Derived.OpenShut
import Derived.ProofKit
import Derived.StillTail
import Derived.Test.YtaogolnoiffgiaaProg
import Derived.Test.YtaogolnoiffgiaaRows
import Derived.WalkKit
import Derived.WalkLawsBesides
import Derived.WalkSpells
import Derived.Test.YtaogolnoiffgiaaC22D
import Derived.Test.YtaogolnoiffgiaaC22F

namespace Go.Proofs.Ytaogolnoiffgiaa
open Go.ChangeShapes Go.WideShapes Go.ChangeAt Go.RowKit Go.Sky

end Go.Proofs.Ytaogolnoiffgiaa

namespace Go.Proofs.Ytaogolnoiffgiaa
open Go.ChangeShapes Go.WideShapes Go.ChangeAt Go.RowKit Go.Sky

set_option maxRecDepth 100000 in
theorem ints_open {H : Type} {enc : TypeId × Value → H} {W : World} {v : Value} {d : DataW H} {p : List MemPlace} {base : Nat} (hv : Value.okWide Try.prog W .any base 22 v)
    (h : DataW.Trod enc Try.prog W 0 (fun _ => true) true 22 v d p) : ∃ A n cap xs, v = .slice A n cap ∧ Rd W 1 encI A n xs := by
  obtain ⟨A0, n0, c0, rfl⟩ := okWide_slice Try.underlying22 hv
  obtain ⟨fuel, hf⟩ := h
  obtain ⟨A, n, cap, xs, e, _, _, hr, _⟩ := open_rd (el := encI) Try.underlying22 (k := 1) (by kernel_rfl) (by omega) i64ok (el_int Try.underlying3) hf
  have e' : [Value.slice A0 n0 c0] = [Value.slice A n cap] := e
  injection e' with e'
  exact ⟨A, n, cap, xs, e', hr⟩

end Go.Proofs.Ytaogolnoiffgiaa

namespace Go.Proofs.Ytaogolnoiffgiaa
open Go.ChangeShapes Go.WideShapes Go.ChangeAt Go.RowKit Go.Sky

section
variable {H : Type} {enc : TypeId × Value → H} {w : World} {base : Nat} {spare : Nat → Bool} {held : Bool}
set_option maxRecDepth 100000 in
theorem el_pair : ∀ n l z, l.length = 2 → DataW.trod enc Try.prog w base spare held n 60 l = some z → ∃ y : Int × Int, l = encP y ∧ (i64ok y.1 ∧ i64ok y.2) := by
  intro n l z hl h
  obtain ⟨xs, m, _, _, _, hlen, hg⟩ := DataW.trod_array Try.underlying60 h
  have c3 : (Try.prog).cellsOf 3 = 1 := by kernel_rfl
  match l, hl, xs, hlen with
  | [a, b], _, [y0, y1], _ =>
    have h0 := hg 0 (by decide)
    have h1 := hg 1 (by decide)
    rw [c3] at h0 h1
    obtain ⟨s, e0, _, w0⟩ := DataW.trod_int Try.underlying3 (h0 : DataW.trod enc Try.prog w base spare held m 3 [a] = some y0)
    obtain ⟨t, e1, _, w1⟩ := DataW.trod_int Try.underlying3 (h1 : DataW.trod enc Try.prog w base spare held m 3 [b] = some y1)
    injection e0 with e0
    injection e1 with e1
    subst e0 e1
    exact ⟨⟨s, t⟩, rfl, i64ok_of w0, i64ok_of w1⟩
end

end Go.Proofs.Ytaogolnoiffgiaa
