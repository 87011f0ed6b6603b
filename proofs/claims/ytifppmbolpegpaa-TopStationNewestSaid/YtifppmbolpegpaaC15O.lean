/- Elements opened: records.
   Arguments opened: integers of a slice; a packed series by value.
   Arguments opened: a net by value.
   A clock of the law, opened. -/
import Derived.BigQuiet
import Derived.Deep.AppendLies
import Derived.Deep.Draws
import Derived.Deep.Fields
import Derived.Deep.Quiet
import Derived.Deep.QuietTactic
import Derived.Deep.Slices
import Derived.Lib.Hide
import Derived.OpenShut
import Derived.ProofKit
import Derived.StillTail
import Derived.Test.YtifppmbolpegpaaProg
import Derived.Test.YtifppmbolpegpaaRows
import Derived.WalkKit
import Derived.WalkLawsBesides
import Derived.WalkSpells
import Derived.Test.YtifppmbolpegpaaC15B
import Derived.Test.YtifppmbolpegpaaC15F
import Derived.Test.YtifppmbolpegpaaC15H

namespace Go.Proofs.Ytifppmbolpegpaa
open Go.ChangeShapes Go.WideShapes Go.ChangeAt Go.RowKit Go.Sky

section
variable {H : Type} {enc : TypeId × Value → H} {w : World} {base : Nat} {spare : Nat → Bool} {held : Bool}
set_option maxRecDepth 100000 in
theorem el_rec : ∀ n l z, l.length = 3 → DataW.trod enc Try.prog w base spare held n 50 l = some z → ∃ y : Sky.Rec, l = encRec y ∧ i64ok y.v := by
  intro n l z hl h
  obtain ⟨xs, m, _, _, _, hlen, hg⟩ := DataW.trod_struct Try.underlying50 h
  have c3 : (Try.prog).cellsOf 3 = 1 := by kernel_rfl
  have c9 : (Try.prog).cellsOf 9 = 1 := by kernel_rfl
  match l, hl, xs, hlen with
  | [a, b, c], _, [y0, y1, y2], _ =>
    have h0 : DataW.trod enc Try.prog w base spare held m 9 (([a, b, c].drop 0).take ((Try.prog).cellsOf 9)) = some y0 := hg 0 _ rfl
    have h1 : DataW.trod enc Try.prog w base spare held m 3 (([a, b, c].drop 1).take ((Try.prog).cellsOf 3)) = some y1 := hg 1 _ rfl
    have h2 : DataW.trod enc Try.prog w base spare held m 9 (([a, b, c].drop 2).take ((Try.prog).cellsOf 9)) = some y2 := hg 2 _ rfl
    rw [c9] at h0 h2
    rw [c3] at h1
    obtain ⟨s, e0, _, _⟩ := DataW.trod_string Try.underlying9 (h0 : DataW.trod enc Try.prog w base spare held m 9 [a] = some y0)
    obtain ⟨t, e1, _, w1⟩ := DataW.trod_int Try.underlying3 (h1 : DataW.trod enc Try.prog w base spare held m 3 [b] = some y1)
    obtain ⟨r, e2, _, _⟩ := DataW.trod_string Try.underlying9 (h2 : DataW.trod enc Try.prog w base spare held m 9 [c] = some y2)
    injection e0 with e0
    injection e1 with e1
    injection e2 with e2
    subst e0 e1 e2
    exact ⟨⟨s, t, r⟩, rfl, i64ok_of w1⟩
end
set_option maxRecDepth 100000 in
theorem recs_open {H : Type} {enc : TypeId × Value → H} {W : World} {v : Value} {d : DataW H} {p : List MemPlace} {base : Nat} (hv : Value.okWide Try.prog W .any base 41 v)
    (h : DataW.Trod enc Try.prog W 0 (fun _ => true) true 41 v d p) : ∃ A n cap xs, v = .slice A n cap ∧ n ≤ cap ∧ Rd W 3 encRec A n xs ∧ ∀ y ∈ xs, i64ok y.v := by
  obtain ⟨A0, n0, c0, rfl⟩ := okWide_slice Try.underlying41 hv
  obtain ⟨fuel, hf⟩ := h
  obtain ⟨A, n, cap, xs, e, hle, _, hr, hok⟩ := open_rd (el := encRec) Try.underlying41 (k := 3) (by kernel_rfl) (by omega) (fun y => i64ok y.v) el_rec hf
  have e' : [Value.slice A0 n0 c0] = [Value.slice A n cap] := e
  injection e' with e'
  exact ⟨A, n, cap, xs, e', hle, hr, hok⟩
end Go.Proofs.Ytifppmbolpegpaa

namespace Go.Proofs.Ytifppmbolpegpaa
open Go.ChangeShapes Go.WideShapes Go.ChangeAt Go.RowKit Go.Sky

set_option maxRecDepth 100000 in
theorem ints_open {H : Type} {enc : TypeId × Value → H} {W : World} {v : Value} {d : DataW H} {p : List MemPlace} {base : Nat} (hv : Value.okWide Try.prog W .any base 22 v)
    (h : DataW.Trod enc Try.prog W 0 (fun _ => true) true 22 v d p) : ∃ A n cap xs, v = .slice A n cap ∧ Rd W 1 encI A n xs := by
  obtain ⟨A0, n0, c0, rfl⟩ := okWide_slice Try.underlying22 hv
  obtain ⟨fuel, hf⟩ := h
  obtain ⟨A, n, cap, xs, e, _, _, hr, _⟩ := open_rd (el := encI) Try.underlying22 (k := 1) (by kernel_rfl) (by omega) i64ok (el_int Try.underlying3) hf
  have e' : [Value.slice A0 n0 c0] = [Value.slice A n cap] := e
  injection e' with e'
  exact ⟨A, n, cap, xs, e', hr⟩

set_option maxRecDepth 100000 in
theorem packed_open {H : Type} {enc : TypeId × Value → H} {W : World} {base : Nat} {v : Value} {d : DataW H} {p : List MemPlace} (hv : Value.okWide Try.prog W .any base 90 v)
    (h : DataW.Trod enc Try.prog W 0 (fun _ => true) true 90 v d p) :
    ∃ (way : Int) (A : Option Addr) (n cap : Nat) (xs : List Int), v = .agg #[.int .i64 way, .slice A n cap] ∧ Rd W 1 encI A n xs := by
  obtain ⟨cs, rfl, hl, n, hf⟩ := open_cells Try.underlying90 (by kernel_rfl) (by kernel_rfl) hv h
  match cs, hl with
  | [e0, e1], _ =>
    obtain ⟨_, _, g0, t0⟩ := hf 0 _ rfl
    obtain ⟨_, _, g1, t1⟩ := hf 1 _ rfl
    injection g0 with g0; subst g0
    injection g1 with g1; subst g1
    obtain ⟨way, k0, _⟩ := DataW.trod_int Try.underlying3 t0
    obtain ⟨A1, n1, c1, xs1, k1, _, _, r1, _⟩ := open_rd (el := encI) Try.underlying22 (k := 1) (by kernel_rfl) (by omega) i64ok (el_int Try.underlying3) t1
    injection k0 with k0; subst k0
    injection k1 with k1; subst k1
    exact ⟨way, A1, n1, c1, xs1, rfl, r1⟩
end Go.Proofs.Ytifppmbolpegpaa

namespace Go.Proofs.Ytifppmbolpegpaa
open Go.ChangeShapes Go.WideShapes Go.ChangeAt Go.RowKit Go.Sky

section
variable {H : Type} {enc : TypeId × Value → H} {w : World} {base : Nat} {spare : Nat → Bool} {held : Bool}
set_option maxRecDepth 100000 in
theorem el_pair : ∀ n l z, l.length = 2 → DataW.trod enc Try.prog w base spare held n 54 l = some z → ∃ y : Int × Int, l = encP y ∧ (i64ok y.1 ∧ i64ok y.2) := by
  intro n l z hl h
  obtain ⟨xs, m, _, _, _, hlen, hg⟩ := DataW.trod_array Try.underlying54 h
  have c3 : (Try.prog).cellsOf 3 = 1 := by kernel_rfl
  match l, hl, xs, hlen with
  | [a, b], _, [y0, y1], _ =>
    have h0 := hg 0 (by decide)
    have h1 := hg 1 (by decide)
    rw [c3] at h0 h1
    obtain ⟨s, e0, _, w0⟩ := DataW.trod_int Try.underlying3 (h0 : DataW.trod enc Try.prog w base spare held m 3 [a] = some y0)
    obtain ⟨t, e1, _, w1⟩ := DataW.trod_int Try.underlying3 (h1 : DataW.trod enc Try.prog w base spare held m 3 [b] = some y1)
    injection e0 with e0
    injection e1 with e1
    subst e0 e1
    exact ⟨⟨s, t⟩, rfl, i64ok_of w0, i64ok_of w1⟩
end

set_option maxRecDepth 100000 in
theorem net_open {H : Type} {enc : TypeId × Value → H} {W : World} {base : Nat} {v : Value} {d : DataW H} {p : List MemPlace} (hv : Value.okWide Try.prog W .any base 97 v)
    (h : DataW.Trod enc Try.prog W 0 (fun _ => true) true 97 v d p) :
    ∃ (st : Int) (A : Option Addr) (n cap : Nat) (ps : List (Int × Int)), v = .agg #[.int .i64 st, .slice A n cap] ∧ Rd W 2 encP A n ps := by
  obtain ⟨cs, rfl, hl, n, hf⟩ := open_cells Try.underlying97 (by kernel_rfl) (by kernel_rfl) hv h
  match cs, hl with
  | [e0, e1], _ =>
    obtain ⟨_, _, g0, t0⟩ := hf 0 _ rfl
    obtain ⟨_, _, g1, t1⟩ := hf 1 _ rfl
    injection g0 with g0; subst g0
    injection g1 with g1; subst g1
    obtain ⟨st, k0, _⟩ := DataW.trod_int Try.underlying3 t0
    obtain ⟨A1, n1, c1, xs1, k1, _, _, r1, _⟩ := open_rd (el := encP) Try.underlying53 (k := 2) (by kernel_rfl) (by omega) (fun y => i64ok y.1 ∧ i64ok y.2) el_pair t1
    injection k0 with k0; subst k0
    injection k1 with k1; subst k1
    exact ⟨st, A1, n1, c1, xs1, rfl, r1⟩
end Go.Proofs.Ytifppmbolpegpaa

namespace Go.Proofs.Ytifppmbolpegpaa
open Go.ChangeShapes Go.WideShapes Go.ChangeAt Go.RowKit Go.Sky

end Go.Proofs.Ytifppmbolpegpaa
