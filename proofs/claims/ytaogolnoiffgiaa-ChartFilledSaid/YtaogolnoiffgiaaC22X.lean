/- Arguments opened: stations, a place, places. -/
import Derived.BigQuiet
import Derived.Deep.AppendLies
import Derived.Deep.Draws
import Derived.Deep.Fields
import Derived.Deep.Quiet
import Derived.Deep.QuietTactic
import Derived.Deep.Slices
import Derived.Laws.BitsAllLaws
import Derived.Lib.Hide
import Derived.MapKept
import Derived.Maps.Keyed
import Derived.OpenShut
import Derived.OrdersIn
import Derived.OwnWalkIn
import Derived.ProofKit
import Derived.RangeFuncCalls
import Derived.Shelf.RegionOpen
import Derived.StillTail
import Derived.TacticsIn
import Derived.Test.YtaogolnoiffgiaaProg
import Derived.Test.YtaogolnoiffgiaaRows
import Derived.WalkKit
import Derived.WalkLawsBesides
import Derived.WalkSpells
import Derived.Test.YtaogolnoiffgiaaC22K
import Derived.Test.YtaogolnoiffgiaaC22R
import Derived.Test.YtaogolnoiffgiaaC22V

namespace Go.Proofs.Ytaogolnoiffgiaa
open Go.ChangeShapes Go.WideShapes Go.ChangeAt Go.RowKit Go.Sky Go.Sky.Ch

set_option maxRecDepth 100000 in
theorem place_open {H : Type} {enc : TypeId × Value → H} {W : World} {base : Nat} {v : Value} {d : DataW H} {p : List MemPlace} (hv : Value.okWide Try.prog W .any base 73 v)
    (h : DataW.Trod enc Try.prog W 0 (fun _ => true) true 73 v d p) : ∃ x y : Int, v = .agg #[.int .i64 x, .int .i64 y] ∧ i64ok x ∧ i64ok y := by
  obtain ⟨cs, rfl, hl, n, hf⟩ := open_cells Try.underlying73 (by kernel_rfl) (by kernel_rfl) hv h
  match cs, hl with
  | [e0, e1], _ =>
    obtain ⟨_, _, g0, t0⟩ := hf 0 _ rfl
    obtain ⟨_, _, g1, t1⟩ := hf 1 _ rfl
    injection g0 with g0; subst g0
    injection g1 with g1; subst g1
    obtain ⟨x, k0, _, w1⟩ := DataW.trod_int Try.underlying3 t0
    obtain ⟨y, k1, _, w2⟩ := DataW.trod_int Try.underlying3 t1
    injection k0 with k0; subst k0
    injection k1 with k1; subst k1
    exact ⟨x, y, rfl, i64ok_of w1, i64ok_of w2⟩

section
variable {H : Type} {enc : TypeId × Value → H} {w : World} {base : Nat} {spare : Nat → Bool} {held : Bool}
set_option maxRecDepth 100000 in
theorem el_pl2 : ∀ n l z, l.length = 2 → DataW.trod enc Try.prog w base spare held n 73 l = some z → ∃ y : Pl, l = [.int .i64 y.1, .int .i64 y.2] ∧ (i64ok y.1 ∧ i64ok y.2) := by
  intro n l z hl h
  obtain ⟨xs, m, _, _, _, hlen, hg⟩ := DataW.trod_struct Try.underlying73 h
  have c3 : (Try.prog).cellsOf 3 = 1 := by kernel_rfl
  match l, hl, xs, hlen with
  | [a, b], _, [y0, y1], _ =>
    have h0 : DataW.trod enc Try.prog w base spare held m 3 (([a, b].drop 0).take ((Try.prog).cellsOf 3)) = some y0 := hg 0 _ rfl
    have h1 : DataW.trod enc Try.prog w base spare held m 3 (([a, b].drop 1).take ((Try.prog).cellsOf 3)) = some y1 := hg 1 _ rfl
    rw [c3] at h0 h1
    obtain ⟨s, e0, _, w0⟩ := DataW.trod_int Try.underlying3 (h0 : DataW.trod enc Try.prog w base spare held m 3 [a] = some y0)
    obtain ⟨t, e1, _, w1⟩ := DataW.trod_int Try.underlying3 (h1 : DataW.trod enc Try.prog w base spare held m 3 [b] = some y1)
    injection e0 with e0
    injection e1 with e1
    subst e0 e1
    exact ⟨(s, t), rfl, i64ok_of w0, i64ok_of w1⟩
set_option maxRecDepth 100000 in
theorem el_rg2 : ∀ n l z, l.length = 2 → DataW.trod enc Try.prog w base spare held n 97 l = some z → ∃ y : Pl, l = [.int .i64 y.1, .int .i64 y.2] ∧ (i64ok y.1 ∧ i64ok y.2) := by
  intro n l z hl h
  obtain ⟨xs, m, _, _, _, hlen, hg⟩ := DataW.trod_struct Try.underlying97 h
  have c3 : (Try.prog).cellsOf 3 = 1 := by kernel_rfl
  match l, hl, xs, hlen with
  | [a, b], _, [y0, y1], _ =>
    have h0 : DataW.trod enc Try.prog w base spare held m 3 (([a, b].drop 0).take ((Try.prog).cellsOf 3)) = some y0 := hg 0 _ rfl
    have h1 : DataW.trod enc Try.prog w base spare held m 3 (([a, b].drop 1).take ((Try.prog).cellsOf 3)) = some y1 := hg 1 _ rfl
    rw [c3] at h0 h1
    obtain ⟨s, e0, _, w0⟩ := DataW.trod_int Try.underlying3 (h0 : DataW.trod enc Try.prog w base spare held m 3 [a] = some y0)
    obtain ⟨t, e1, _, w1⟩ := DataW.trod_int Try.underlying3 (h1 : DataW.trod enc Try.prog w base spare held m 3 [b] = some y1)
    injection e0 with e0
    injection e1 with e1
    subst e0 e1
    exact ⟨(s, t), rfl, i64ok_of w0, i64ok_of w1⟩
set_option maxRecDepth 100000 in
theorem el_sta : ∀ n l z, l.length = 6 → DataW.trod enc Try.prog w base spare held n 99 l = some z → ∃ y : Sta, l = encSt y ∧ True := by
  intro n l z hl h
  obtain ⟨xs, m, _, _, _, hlen, hg⟩ := DataW.trod_struct Try.underlying99 h
  have c3 : (Try.prog).cellsOf 3 = 1 := by kernel_rfl
  have c9 : (Try.prog).cellsOf 9 = 1 := by kernel_rfl
  have cp : (Try.prog).cellsOf 73 = 2 := by kernel_rfl
  have cr : (Try.prog).cellsOf 97 = 2 := by kernel_rfl
  match l, hl, xs, hlen with
  | [a, b, c, d, e, f], _, [y0, y1, y2, y3], _ =>
    have h0 : DataW.trod enc Try.prog w base spare held m 9 (([a, b, c, d, e, f].drop 0).take ((Try.prog).cellsOf 9)) = some y0 := hg 0 _ rfl
    have h1 : DataW.trod enc Try.prog w base spare held m 73 (([a, b, c, d, e, f].drop 1).take ((Try.prog).cellsOf 73)) = some y1 := hg 1 _ rfl
    have h2 : DataW.trod enc Try.prog w base spare held m 97 (([a, b, c, d, e, f].drop 3).take ((Try.prog).cellsOf 97)) = some y2 := hg 2 _ rfl
    have h3 : DataW.trod enc Try.prog w base spare held m 3 (([a, b, c, d, e, f].drop 5).take ((Try.prog).cellsOf 3)) = some y3 := hg 3 _ rfl
    rw [c9] at h0
    rw [cp] at h1
    rw [cr] at h2
    rw [c3] at h3
    obtain ⟨s, e0, _, _⟩ := DataW.trod_string Try.underlying9 (h0 : DataW.trod enc Try.prog w base spare held m 9 [a] = some y0)
    obtain ⟨p, e1, _⟩ := el_pl2 _ _ _ rfl (h1 : DataW.trod enc Try.prog w base spare held m 73 [b, c] = some y1)
    obtain ⟨q, e2, _⟩ := el_rg2 _ _ _ rfl (h2 : DataW.trod enc Try.prog w base spare held m 97 [d, e] = some y2)
    obtain ⟨t, e3, _, _⟩ := DataW.trod_int Try.underlying3 (h3 : DataW.trod enc Try.prog w base spare held m 3 [f] = some y3)
    injection e0 with e0
    injection e1 with e1 e1'
    injection e1' with e1'
    injection e2 with e2 e2'
    injection e2' with e2'
    injection e3 with e3
    subst e0 e1 e1' e2 e2' e3
    exact ⟨⟨s, p.1, p.2, q.1, q.2, t⟩, rfl, trivial⟩
end
set_option maxRecDepth 100000 in
theorem stas_open {H : Type} {enc : TypeId × Value → H} {W : World} {v : Value} {d : DataW H} {p : List MemPlace} {base : Nat} (hv : Value.okWide Try.prog W .any base 71 v)
    (h : DataW.Trod enc Try.prog W 0 (fun _ => true) true 71 v d p) : ∃ A n cap xs, v = .slice A n cap ∧ n ≤ cap ∧ Rd W 6 encSt A n xs := by
  obtain ⟨A0, n0, c0, rfl⟩ := okWide_slice Try.underlying71 hv
  obtain ⟨fuel, hf⟩ := h
  obtain ⟨A, n, cap, xs, e, hle, _, hr, _⟩ := open_rd (el := encSt) Try.underlying71 (k := 6) (by kernel_rfl) (by omega) (fun _ => True) el_sta hf
  have e' : [Value.slice A0 n0 c0] = [Value.slice A n cap] := e
  injection e' with e'
  exact ⟨A, n, cap, xs, e', hle, hr⟩
set_option maxRecDepth 100000 in
theorem places_open {H : Type} {enc : TypeId × Value → H} {W : World} {v : Value} {d : DataW H} {p : List MemPlace} {base : Nat} (hv : Value.okWide Try.prog W .any base 82 v)
    (h : DataW.Trod enc Try.prog W 0 (fun _ => true) true 82 v d p) : ∃ A n cap xs, v = .slice A n cap ∧ n ≤ cap ∧ Rd W 2 (fun p : Pl => [.int .i64 p.1, .int .i64 p.2]) A n xs ∧ ∀ y ∈ xs, (i64ok y.1 ∧ i64ok y.2) := by
  obtain ⟨A0, n0, c0, rfl⟩ := okWide_slice Try.underlying82 hv
  obtain ⟨fuel, hf⟩ := h
  obtain ⟨A, n, cap, xs, e, hle, _, hr, hok⟩ := open_rd (el := fun p : Pl => [Value.int .i64 p.1, Value.int .i64 p.2]) Try.underlying82 (k := 2) (by kernel_rfl) (by omega) (fun y => i64ok y.1 ∧ i64ok y.2) el_pl2 hf
  have e' : [Value.slice A0 n0 c0] = [Value.slice A n cap] := e
  injection e' with e'
  exact ⟨A, n, cap, xs, e', hle, hr, hok⟩
end Go.Proofs.Ytaogolnoiffgiaa
