/- Arguments opened: a block by value, a string; the table of powers of ten. -/
import Derived.BigQuiet
import Derived.Deep.AppendLies
import Derived.Deep.Draws
import Derived.Deep.Fields
import Derived.Deep.Quiet
import Derived.Deep.QuietTactic
import Derived.Deep.Slices
import Derived.LaidMore
import Derived.Laws.IdiomStrings
import Derived.Lib.Hide
import Derived.Lib.ItoaLen
import Derived.Lib.ItoaNum
import Derived.Lib.LaidTab
import Derived.MakeChecks
import Derived.OpenShut
import Derived.OrdersIn
import Derived.OwnWalkIn
import Derived.ProofKit
import Derived.RangeFuncCalls
import Derived.Shelf.Strconv.Itoa3
import Derived.Shelf.Strings.OnBuilder
import Derived.StillTail
import Derived.Stop.Joined
import Derived.Stop.LaidErr
import Derived.TacticsIn
import Derived.Test.YtifppmbolpegpaaDoorProg
import Derived.Test.YtifppmbolpegpaaDoorRows
import Derived.WalkKit
import Derived.WalkLawsBesides
import Derived.WalkSpells
import Derived.Test.YtifppmbolpegpaaDoorC16D
import Derived.Test.YtifppmbolpegpaaDoorC16K

namespace Go.Proofs.YtifppmbolpegpaaDoor
open Go.ChangeShapes Go.WideShapes Go.ChangeAt Go.RowKit Go.Sky

set_option maxRecDepth 100000 in
theorem block_open {H : Type} {enc : TypeId × Value → H} {W : World} {base : Nat} {v : Value} {d : DataW H} {p : List MemPlace} (hv : Value.okWide Tryd.prog W .any base 23 v)
    (h : DataW.Trod enc Tryd.prog W 0 (fun _ => true) true 23 v d p) :
    ∃ x : Blk, v = .agg #[.int .i64 x.n, .int .i64 x.c, .int .i64 x.k, .string x.b] ∧ okK x := by
  obtain ⟨cs, rfl, hl, n, hf⟩ := open_cells Tryd.underlying23 (by kernel_rfl) (by kernel_rfl) hv h
  match cs, hl with
  | [e0, e1, e2, e3], _ =>
    obtain ⟨_, _, g0, t0⟩ := hf 0 _ rfl
    obtain ⟨_, _, g1, t1⟩ := hf 1 _ rfl
    obtain ⟨_, _, g2, t2⟩ := hf 2 _ rfl
    obtain ⟨_, _, g3, t3⟩ := hf 3 _ rfl
    injection g0 with g0; subst g0
    injection g1 with g1; subst g1
    injection g2 with g2; subst g2
    injection g3 with g3; subst g3
    obtain ⟨b, k0, _, w0⟩ := DataW.trod_int Tryd.underlying3 t0
    obtain ⟨u, k1, _, w1⟩ := DataW.trod_int Tryd.underlying3 t1
    obtain ⟨t, k2, _, _⟩ := DataW.trod_int Tryd.underlying3 t2
    obtain ⟨s, k3, _, _⟩ := DataW.trod_string Tryd.underlying9 t3
    injection k0 with k0; subst k0
    injection k1 with k1; subst k1
    injection k2 with k2; subst k2
    injection k3 with k3; subst k3
    exact ⟨⟨b, u, t, s⟩, rfl, (i64ok_of w0).1, (i64ok_of w0).2, (i64ok_of w1).1, (i64ok_of w1).2⟩

theorem ownKnobD : ownKnob Tryd.prog.godebug = none := by kernel_rfl
/-- The door's own heap meets the condition. -/
theorem door_met (os : Os) (args : Array Value) : laidMetH Tryd.prog Rows.stationChecksRow.laid ((World.doorLaid Tryd.prog 4000 os).forCall (fun _ _ => 0) ⟨#[], args, []⟩).memory :=
  laidMetH_of_parts3 (fuel := 8) (laidMet_of_run' 8 (by kernel_rfl) (by kernel_rfl)) (by kernel_rfl) (by kernel_rfl)
theorem tab_of {W : World} (h : laidMetH Tryd.prog Rows.stationChecksRow.laid W) : Tab W := by
  rw [MakeChecks.laidMetH_plain _ _ _ (by kernel_rfl)] at h
  have h3 := h.tail.tail
  exact Lib.tabIs_of_head (g := ((Tryd.prog).globalNamed (Rows.stationChecksRow.named.headD default)).getD 0) (t := 156) (e := 150) (n := 20) (by kernel_rfl) (by kernel_rfl) Tryd.underlying156 Tryd.underlying150 (by kernel_rfl) (by kernel_rfl) h3
end Go.Proofs.YtifppmbolpegpaaDoor
