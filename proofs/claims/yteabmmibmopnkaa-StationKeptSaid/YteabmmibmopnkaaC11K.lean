/- Elements opened: items.
   Arguments opened: an item by value. -/
import Derived.BigQuiet
import Derived.Deep.AppendLies
import Derived.Deep.Draws
import Derived.Deep.Fields
import Derived.Deep.Quiet
import Derived.Deep.QuietTactic
import Derived.Deep.Slices
import Derived.Lib.Hide
import Derived.OpenShut
import Derived.ProofKit
import Derived.StillTail
import Derived.Test.YteabmmibmopnkaaProg
import Derived.Test.YteabmmibmopnkaaRows
import Derived.WalkKit
import Derived.WalkLawsBesides
import Derived.WalkSpells
import Derived.Test.YteabmmibmopnkaaC11B
import Derived.Test.YteabmmibmopnkaaC11D
import Derived.Test.YteabmmibmopnkaaC11F

namespace Go.Proofs.Yteabmmibmopnkaa
open Go.ChangeShapes Go.WideShapes Go.ChangeAt Go.RowKit Go.Sky

section
variable {H : Type} {enc : TypeId × Value → H} {w : World} {base : Nat} {spare : Nat → Bool} {held : Bool}
set_option maxRecDepth 100000 in
theorem el_item : ∀ n l z, l.length = 4 → DataW.trod enc Try.prog w base spare held n 44 l = some z → ∃ y : Sky.Item, l = encM y ∧ (i64ok y.p ∧ i64ok y.z ∧ i64ok y.t) := by
  intro n l z hl h
  obtain ⟨xs, m, _, _, _, hlen, hg⟩ := DataW.trod_struct Try.underlying44 h
  have c3 : (Try.prog).cellsOf 3 = 1 := by kernel_rfl
  have c9 : (Try.prog).cellsOf 9 = 1 := by kernel_rfl
  match l, hl, xs, hlen with
  | [a, b, c, d], _, [y0, y1, y2, y3], _ =>
    have h0 : DataW.trod enc Try.prog w base spare held m 9 (([a, b, c, d].drop 0).take ((Try.prog).cellsOf 9)) = some y0 := hg 0 _ rfl
    have h1 : DataW.trod enc Try.prog w base spare held m 3 (([a, b, c, d].drop 1).take ((Try.prog).cellsOf 3)) = some y1 := hg 1 _ rfl
    have h2 : DataW.trod enc Try.prog w base spare held m 3 (([a, b, c, d].drop 2).take ((Try.prog).cellsOf 3)) = some y2 := hg 2 _ rfl
    have h3 : DataW.trod enc Try.prog w base spare held m 3 (([a, b, c, d].drop 3).take ((Try.prog).cellsOf 3)) = some y3 := hg 3 _ rfl
    rw [c9] at h0
    rw [c3] at h1 h2 h3
    obtain ⟨s, e0, _, _⟩ := DataW.trod_string Try.underlying9 (h0 : DataW.trod enc Try.prog w base spare held m 9 [a] = some y0)
    obtain ⟨t, e1, _, w1⟩ := DataW.trod_int Try.underlying3 (h1 : DataW.trod enc Try.prog w base spare held m 3 [b] = some y1)
    obtain ⟨r, e2, _, w2⟩ := DataW.trod_int Try.underlying3 (h2 : DataW.trod enc Try.prog w base spare held m 3 [c] = some y2)
    obtain ⟨u, e3, _, w3⟩ := DataW.trod_int Try.underlying3 (h3 : DataW.trod enc Try.prog w base spare held m 3 [d] = some y3)
    injection e0 with e0
    injection e1 with e1
    injection e2 with e2
    injection e3 with e3
    subst e0 e1 e2 e3
    exact ⟨⟨s, t, r, u⟩, rfl, i64ok_of w1, i64ok_of w2, i64ok_of w3⟩
end
set_option maxRecDepth 100000 in
theorem items_open {H : Type} {enc : TypeId × Value → H} {W : World} {v : Value} {d : DataW H} {p : List MemPlace} {base : Nat} (hv : Value.okWide Try.prog W .any base 42 v)
    (h : DataW.Trod enc Try.prog W 0 (fun _ => true) true 42 v d p) : ∃ A n cap xs, v = .slice A n cap ∧ n ≤ cap ∧ Rd W 4 encM A n xs ∧ ∀ y ∈ xs, (i64ok y.p ∧ i64ok y.z ∧ i64ok y.t) := by
  obtain ⟨A0, n0, c0, rfl⟩ := okWide_slice Try.underlying42 hv
  obtain ⟨fuel, hf⟩ := h
  obtain ⟨A, n, cap, xs, e, hle, _, hr, hok⟩ := open_rd (el := encM) Try.underlying42 (k := 4) (by kernel_rfl) (by omega) (fun y => i64ok y.p ∧ i64ok y.z ∧ i64ok y.t) el_item hf
  have e' : [Value.slice A0 n0 c0] = [Value.slice A n cap] := e
  injection e' with e'
  exact ⟨A, n, cap, xs, e', hle, hr, hok⟩
end Go.Proofs.Yteabmmibmopnkaa

namespace Go.Proofs.Yteabmmibmopnkaa
open Go.ChangeShapes Go.WideShapes Go.ChangeAt Go.RowKit Go.Sky

set_option maxRecDepth 100000 in
theorem item_open {H : Type} {enc : TypeId × Value → H} {W : World} {base : Nat} {v : Value} {d : DataW H} {p : List MemPlace} (hv : Value.okWide Try.prog W .any base 44 v)
    (h : DataW.Trod enc Try.prog W 0 (fun _ => true) true 44 v d p) :
    ∃ x : Sky.Item, v = .agg #[.string x.n, .int .i64 x.p, .int .i64 x.z, .int .i64 x.t] ∧ (i64ok x.p ∧ i64ok x.z ∧ i64ok x.t) := by
  obtain ⟨cs, rfl, hl, n, hf⟩ := open_cells Try.underlying44 (by kernel_rfl) (by kernel_rfl) hv h
  match cs, hl with
  | [e0, e1, e2, e3], _ =>
    obtain ⟨_, _, g0, t0⟩ := hf 0 _ rfl
    obtain ⟨_, _, g1, t1⟩ := hf 1 _ rfl
    obtain ⟨_, _, g2, t2⟩ := hf 2 _ rfl
    obtain ⟨_, _, g3, t3⟩ := hf 3 _ rfl
    injection g0 with g0; subst g0
    injection g1 with g1; subst g1
    injection g2 with g2; subst g2
    injection g3 with g3; subst g3
    obtain ⟨s, k0, _, _⟩ := DataW.trod_string Try.underlying9 t0
    obtain ⟨b, k1, _, w1⟩ := DataW.trod_int Try.underlying3 t1
    obtain ⟨u, k2, _, w2⟩ := DataW.trod_int Try.underlying3 t2
    obtain ⟨t, k3, _, w3⟩ := DataW.trod_int Try.underlying3 t3
    injection k0 with k0; subst k0
    injection k1 with k1; subst k1
    injection k2 with k2; subst k2
    injection k3 with k3; subst k3
    exact ⟨⟨s, b, u, t⟩, rfl, i64ok_of w1, i64ok_of w2, i64ok_of w3⟩

end Go.Proofs.Yteabmmibmopnkaa
