/- Arguments opened: a trace by value. -/
import Derived.BigQuiet
import Derived.Deep.AppendLies
import Derived.Deep.Draws
import Derived.Deep.Fields
import Derived.Deep.Quiet
import Derived.Deep.QuietTactic
import Derived.Deep.Slices
import Derived.Lib.Hide
import Derived.OpenShut
import Derived.ProofKit
import Derived.StillTail
import Derived.Test.YteabmmibmopnkaaProg
import Derived.Test.YteabmmibmopnkaaRows
import Derived.WalkKit
import Derived.WalkLawsBesides
import Derived.WalkSpells
import Derived.Test.YteabmmibmopnkaaC12B
import Derived.Test.YteabmmibmopnkaaC12D
import Derived.Test.YteabmmibmopnkaaC12F

namespace Go.Proofs.Yteabmmibmopnkaa
open Go.ChangeShapes Go.WideShapes Go.ChangeAt Go.RowKit Go.Sky

section
variable {H : Type} {enc : TypeId × Value → H} {w : World} {base : Nat} {spare : Nat → Bool} {held : Bool}
set_option maxRecDepth 100000 in
theorem el_pt : ∀ n l z, l.length = 3 → DataW.trod enc Try.prog w base spare held n 38 l = some z → ∃ y : Pt, l = encQ y ∧ (i64ok y.f ∧ i64ok y.lo ∧ i64ok y.hi) := by
  intro n l z hl h
  obtain ⟨xs, m, _, _, _, hlen, hg⟩ := DataW.trod_struct Try.underlying38 h
  have c3 : (Try.prog).cellsOf 3 = 1 := by kernel_rfl
  have c9 : (Try.prog).cellsOf 36 = 2 := by kernel_rfl
  match l, hl, xs, hlen with
  | [a, b, c], _, [y0, y1], _ =>
    have h0 : DataW.trod enc Try.prog w base spare held m 3 (([a, b, c].drop 0).take ((Try.prog).cellsOf 3)) = some y0 := hg 0 _ rfl
    have h1 : DataW.trod enc Try.prog w base spare held m 36 (([a, b, c].drop 1).take ((Try.prog).cellsOf 36)) = some y1 := hg 1 _ rfl
    rw [c3] at h0
    rw [c9] at h1
    obtain ⟨f, e0, _, w0⟩ := DataW.trod_int Try.underlying3 (h0 : DataW.trod enc Try.prog w base spare held m 3 [a] = some y0)
    obtain ⟨xs', m', _, _, _, hlen', hg'⟩ := DataW.trod_struct Try.underlying36 (h1 : DataW.trod enc Try.prog w base spare held m 36 [b, c] = some y1)
    match xs', hlen' with
    | [z0, z1], _ =>
      have k0 : DataW.trod enc Try.prog w base spare held m' 3 (([b, c].drop 0).take ((Try.prog).cellsOf 3)) = some z0 := hg' 0 _ rfl
      have k1 : DataW.trod enc Try.prog w base spare held m' 3 (([b, c].drop 1).take ((Try.prog).cellsOf 3)) = some z1 := hg' 1 _ rfl
      rw [c3] at k0 k1
      obtain ⟨lo, e1, _, w1⟩ := DataW.trod_int Try.underlying3 (k0 : DataW.trod enc Try.prog w base spare held m' 3 [b] = some z0)
      obtain ⟨hi, e2, _, w2⟩ := DataW.trod_int Try.underlying3 (k1 : DataW.trod enc Try.prog w base spare held m' 3 [c] = some z1)
      injection e0 with e0
      injection e1 with e1
      injection e2 with e2
      subst e0 e1 e2
      exact ⟨⟨f, lo, hi⟩, rfl, i64ok_of w0, i64ok_of w1, i64ok_of w2⟩
end
set_option maxRecDepth 100000 in
theorem trace_open {H : Type} {enc : TypeId × Value → H} {W : World} {base : Nat} {v : Value} {d : DataW H} {p : List MemPlace} (hv : Value.okWide Try.prog W .any base 24 v)
    (h : DataW.Trod enc Try.prog W 0 (fun _ => true) true 24 v d p) :
    ∃ (A : Option Addr) (n cap : Nat) (l : List Pt) (af wd : Int), v = .agg #[.slice A n cap, .int .i64 af, .int .i64 wd] ∧ n ≤ cap ∧ Rd W 3 encQ A n l := by
  obtain ⟨cs, rfl, hl, n, hf⟩ := open_cells Try.underlying24 (by kernel_rfl) (by kernel_rfl) hv h
  match cs, hl with
  | [e0, e1, e2], _ =>
    obtain ⟨_, _, g0, t0⟩ := hf 0 _ rfl
    obtain ⟨_, _, g1, t1⟩ := hf 1 _ rfl
    obtain ⟨_, _, g2, t2⟩ := hf 2 _ rfl
    injection g0 with g0; subst g0
    injection g1 with g1; subst g1
    injection g2 with g2; subst g2
    obtain ⟨A1, n1, c1, xs1, k0, hle, _, r1, _⟩ := open_rd (el := encQ) Try.underlying22 (k := 3) (by kernel_rfl) (by omega) (fun y => i64ok y.f ∧ i64ok y.lo ∧ i64ok y.hi) el_pt t0
    obtain ⟨af, k1, _⟩ := DataW.trod_int Try.underlying3 t1
    obtain ⟨wd, k2, _⟩ := DataW.trod_int Try.underlying3 t2
    injection k0 with k0; subst k0
    injection k1 with k1; subst k1
    injection k2 with k2; subst k2
    exact ⟨A1, n1, c1, xs1, af, wd, rfl, hle, r1⟩
end Go.Proofs.Yteabmmibmopnkaa
