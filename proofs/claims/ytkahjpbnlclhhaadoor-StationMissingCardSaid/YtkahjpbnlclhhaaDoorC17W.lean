/- Arguments opened: a block by value, a string; the table of powers of ten.
   The door's world, the table of powers of ten, by a row's list of laid tables.
   Elements opened: blocks. -/
import Derived.BigQuiet
import Derived.Deep.AppendLies
import Derived.Deep.Draws
import Derived.Deep.Fields
import Derived.Deep.Quiet
import Derived.Deep.QuietTactic
import Derived.Deep.Slices
import Derived.LaidMore
import Derived.Laws.IdiomStrings
import Derived.Lib.Hide
import Derived.Lib.ItoaLen
import Derived.Lib.ItoaNum
import Derived.Lib.LaidTab
import Derived.MakeChecks
import Derived.OpenShut
import Derived.OrdersIn
import Derived.OwnWalkIn
import Derived.ProofKit
import Derived.RangeFuncCalls
import Derived.Shelf.Strconv.Itoa3
import Derived.Shelf.Strings.OnBuilder
import Derived.StillTail
import Derived.Stop.Joined
import Derived.Stop.LaidErr
import Derived.TacticsIn
import Derived.Test.YtkahjpbnlclhhaaDoorProg
import Derived.Test.YtkahjpbnlclhhaaDoorRows
import Derived.WalkKit
import Derived.WalkLawsBesides
import Derived.WalkSpells
import Derived.Test.YtkahjpbnlclhhaaDoorC17G
import Derived.Test.YtkahjpbnlclhhaaDoorC17I
import Derived.Test.YtkahjpbnlclhhaaDoorC17T

namespace Go.Proofs.YtkahjpbnlclhhaaDoor
open Go.ChangeShapes Go.WideShapes Go.ChangeAt Go.RowKit Go.Sky

set_option maxRecDepth 100000 in
theorem block_open {H : Type} {enc : TypeId × Value → H} {W : World} {base : Nat} {v : Value} {d : DataW H} {p : List MemPlace} (hv : Value.okWide Tryd.prog W .any base 54 v)
    (h : DataW.Trod enc Tryd.prog W 0 (fun _ => true) true 54 v d p) :
    ∃ x : Blk, v = .agg #[.int .i64 x.n, .int .i64 x.c, .int .i64 x.k, .string x.b] ∧ okK x := by
  obtain ⟨cs, rfl, hl, n, hf⟩ := open_cells Tryd.underlying54 (by kernel_rfl) (by kernel_rfl) hv h
  match cs, hl with
  | [e0, e1, e2, e3], _ =>
    obtain ⟨_, _, g0, t0⟩ := hf 0 _ rfl
    obtain ⟨_, _, g1, t1⟩ := hf 1 _ rfl
    obtain ⟨_, _, g2, t2⟩ := hf 2 _ rfl
    obtain ⟨_, _, g3, t3⟩ := hf 3 _ rfl
    injection g0 with g0; subst g0
    injection g1 with g1; subst g1
    injection g2 with g2; subst g2
    injection g3 with g3; subst g3
    obtain ⟨b, k0, _, w0⟩ := DataW.trod_int Tryd.underlying3 t0
    obtain ⟨u, k1, _, w1⟩ := DataW.trod_int Tryd.underlying3 t1
    obtain ⟨t, k2, _, _⟩ := DataW.trod_int Tryd.underlying3 t2
    obtain ⟨s, k3, _, _⟩ := DataW.trod_string Tryd.underlying9 t3
    injection k0 with k0; subst k0
    injection k1 with k1; subst k1
    injection k2 with k2; subst k2
    injection k3 with k3; subst k3
    exact ⟨⟨b, u, t, s⟩, rfl, (i64ok_of w0).1, (i64ok_of w0).2, (i64ok_of w1).1, (i64ok_of w1).2⟩
end Go.Proofs.YtkahjpbnlclhhaaDoor

namespace Go.Proofs.YtkahjpbnlclhhaaDoor
open Go.ChangeShapes Go.WideShapes Go.ChangeAt Go.RowKit Go.Sky

theorem ownKnobD : ownKnob Tryd.prog.godebug = none := by kernel_rfl
/-- The door's own heap meets the condition. -/
theorem door_met3 (os : Os) (args : Array Value) : laidMetH Tryd.prog Rows.stationMissingRow.laid ((World.doorLaid Tryd.prog 4000 os).forCall (fun _ _ => 0) ⟨#[], args, []⟩).memory :=
  laidMetH_of_parts3 (fuel := 8) (laidMet_of_run' 8 (by kernel_rfl) (by kernel_rfl)) (by kernel_rfl) (by kernel_rfl)
theorem tab_of3 {W : World} (h : laidMetH Tryd.prog Rows.stationMissingRow.laid W) : Tab W := by
  rw [MakeChecks.laidMetH_plain _ _ _ (by kernel_rfl)] at h
  have h3 := h.tail.tail
  exact Lib.tabIs_of_head (g := ((Tryd.prog).globalNamed "internal/strconv.uint64pow10").getD 0) (t := 175) (e := 161) (n := 20) (by kernel_rfl) (by kernel_rfl) Tryd.underlying175 Tryd.underlying161 (by kernel_rfl) (by kernel_rfl) h3
end Go.Proofs.YtkahjpbnlclhhaaDoor

namespace Go.Proofs.YtkahjpbnlclhhaaDoor
open Go.ChangeShapes Go.WideShapes Go.ChangeAt Go.RowKit Go.Sky

section
variable {H : Type} {enc : TypeId × Value → H} {w : World} {base : Nat} {spare : Nat → Bool} {held : Bool}
set_option maxRecDepth 100000 in
theorem el_blk : ∀ n l z, l.length = 4 → DataW.trod enc Tryd.prog w base spare held n 54 l = some z → ∃ y : Blk, l = encK y ∧ okK y := by
  intro n l z hl h
  obtain ⟨xs, m, _, _, _, hlen, hg⟩ := DataW.trod_struct Tryd.underlying54 h
  have c3 : (Tryd.prog).cellsOf 3 = 1 := by kernel_rfl
  have c9 : (Tryd.prog).cellsOf 9 = 1 := by kernel_rfl
  match l, hl, xs, hlen with
  | [a, b, c, e], _, [y0, y1, y2, y3], _ =>
    have h0 : DataW.trod enc Tryd.prog w base spare held m 3 (([a, b, c, e].drop 0).take ((Tryd.prog).cellsOf 3)) = some y0 := hg 0 _ rfl
    have h1 : DataW.trod enc Tryd.prog w base spare held m 3 (([a, b, c, e].drop 1).take ((Tryd.prog).cellsOf 3)) = some y1 := hg 1 _ rfl
    have h2 : DataW.trod enc Tryd.prog w base spare held m 3 (([a, b, c, e].drop 2).take ((Tryd.prog).cellsOf 3)) = some y2 := hg 2 _ rfl
    have h3 : DataW.trod enc Tryd.prog w base spare held m 9 (([a, b, c, e].drop 3).take ((Tryd.prog).cellsOf 9)) = some y3 := hg 3 _ rfl
    rw [c9] at h3
    rw [c3] at h0 h1 h2
    obtain ⟨t0, e0, _, w0⟩ := DataW.trod_int Tryd.underlying3 (h0 : DataW.trod enc Tryd.prog w base spare held m 3 [a] = some y0)
    obtain ⟨t1, e1, _, w1⟩ := DataW.trod_int Tryd.underlying3 (h1 : DataW.trod enc Tryd.prog w base spare held m 3 [b] = some y1)
    obtain ⟨t2, e2, _, w2⟩ := DataW.trod_int Tryd.underlying3 (h2 : DataW.trod enc Tryd.prog w base spare held m 3 [c] = some y2)
    obtain ⟨s, e3, _, _⟩ := DataW.trod_string Tryd.underlying9 (h3 : DataW.trod enc Tryd.prog w base spare held m 9 [e] = some y3)
    injection e0 with e0
    injection e1 with e1
    injection e2 with e2
    injection e3 with e3
    subst e0 e1 e2 e3
    exact ⟨⟨t0, t1, t2, s⟩, rfl, (i64ok_of w0).1, (i64ok_of w0).2, (i64ok_of w1).1, (i64ok_of w1).2⟩
end
set_option maxRecDepth 100000 in
theorem blks_open {H : Type} {enc : TypeId × Value → H} {W : World} {v : Value} {d : DataW H} {p : List MemPlace} {base : Nat} (hv : Value.okWide Tryd.prog W .any base 22 v)
    (h : DataW.Trod enc Tryd.prog W 0 (fun _ => true) true 22 v d p) : ∃ A n cap xs, v = .slice A n cap ∧ n ≤ cap ∧ Rd W 4 encK A n xs ∧ ∀ y ∈ xs, okK y := by
  obtain ⟨A0, n0, c0, rfl⟩ := okWide_slice Tryd.underlying22 hv
  obtain ⟨fuel, hf⟩ := h
  obtain ⟨A, n, cap, xs, e, hle, _, hr, hok⟩ := open_rd (el := encK) Tryd.underlying22 (k := 4) (by kernel_rfl) (by omega) (fun y => okK y) el_blk hf
  have e' : [Value.slice A0 n0 c0] = [Value.slice A n cap] := e
  injection e' with e'
  exact ⟨A, n, cap, xs, e', hle, hr, hok⟩
end Go.Proofs.YtkahjpbnlclhhaaDoor
