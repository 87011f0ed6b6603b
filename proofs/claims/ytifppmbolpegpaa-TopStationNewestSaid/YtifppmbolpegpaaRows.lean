/-
  No cell of these rows narrows 'for every input' (looked for: loops, veiled, ifaces, maps, wideKeys, modest, calm, conditions, laid).
  DERIVED. THE GIVEN ROWS OF THIS SEAT. 4 by the template 'for every input the law returns true; each argument reads behind the call as it read before'; 0 by the template 'total and deterministic' (their statements: YtifppmbolpegpaaTotals.lean).
  GIVEN WITH THE SEED: the statements are not yours to turn. If you find one false, say at which input.
  Laid BY PROGRAM, IN A SANDBOX (cutbox-rows.mjs): the forced cells as the released guide's own fill.sh prints them over the translation c163c73a252778ef… (all of the seat's roots in one cut). By AI agents, Wed Nov 11 2026. No macro, syntax, notation, axiom, sorry.
-/
import Derived.Test.YtifppmbolpegpaaChecked
import GoSem.Claim
import GoSem.ClaimJoined
import GoSem.ClaimMapViews
import Derived.JoinedTies
import Derived.KernelRfl
namespace Go.Proofs.Ytifppmbolpegpaa
/- THE CELL 'sum', in the pinned program and in every row, IS THE sha256 OF THE DUMP (.gsa) THAT YtifppmbolpegpaaProg.lean LOADS. Nothing in Lean hashes anything: it is a label: what it is worth is what the hold of that sum in a sandbox is worth. -/
noncomputable def Try.pinned : Pinned := { name := "ytifppmbolpegpaa", sum := "c163c73a252778eff007b34c31a556c36f72f3b804a142f4ff4e41b2a95d0c90", checked := Try.checked }
namespace Rows
def none {H : Type} : Left H := { results := [], args := [] }

/-- 'skywavetop.TopWarnQuiet': WHATEVER THE INPUT: true; the input reads as it did. -/
def topWarnQuietSpec : ChangeSpec := { name := "topWarnQuiet", fn := fun _ => fun
  | [d1, d2, d3] => { results := [.lit (.bool true)], args := [d1, d2, d3] }
  | _ => none }
def topWarnQuietRow : OpenClaim := { program := "ytifppmbolpegpaa", sum := "c163c73a252778eff007b34c31a556c36f72f3b804a142f4ff4e41b2a95d0c90", func := "skywave/skywavetop.TopWarnQuiet", spec := "topWarnQuiet", inPlace := ["slices.overlaps[skywave/api.WarnMessage]"], unfollowed := true, recurses := true, apart := false }
def TopWarnQuietSaid : Prop := topWarnQuietRow.holds Try.pinned (OpenSpec.ofChange topWarnQuietSpec)

/-- ITS FALSE NEIGHBOUR: 'it returns false'. Refute it at one input. -/
def topWarnQuietWrong : ChangeSpec := { name := "topWarnQuiet", fn := fun _ => fun
  | [d1, d2, d3] => { results := [.lit (.bool false)], args := [d1, d2, d3] }
  | _ => none }
def TopWarnQuietWrongFalsely : Prop := topWarnQuietRow.holds Try.pinned (OpenSpec.ofChange topWarnQuietWrong)

/-- 'skywavelaw09.StationMerges': WHATEVER THE INPUT: true; the input reads as it did. -/
def stationMergesSpec : ChangeSpec := { name := "stationMerges", fn := fun _ => fun
  | [d1, d2] => { results := [.lit (.bool true)], args := [d1, d2] }
  | _ => none }
def stationMergesRow : OpenClaim := { program := "ytifppmbolpegpaa", sum := "c163c73a252778eff007b34c31a556c36f72f3b804a142f4ff4e41b2a95d0c90", func := "skywave/skywavelaw09.StationMerges", spec := "stationMerges", unfollowed := true, recurses := true, apart := false }
def StationMergesSaid : Prop := stationMergesRow.holds Try.pinned (OpenSpec.ofChange stationMergesSpec)

/-- ITS FALSE NEIGHBOUR: 'it returns false'. Refute it at one input. -/
def stationMergesWrong : ChangeSpec := { name := "stationMerges", fn := fun _ => fun
  | [d1, d2] => { results := [.lit (.bool false)], args := [d1, d2] }
  | _ => none }
def StationMergesWrongFalsely : Prop := stationMergesRow.holds Try.pinned (OpenSpec.ofChange stationMergesWrong)

/-- 'skywavelaw09.StationAnyOrder': WHATEVER THE INPUT: true; the input reads as it did. -/
def stationAnyOrderSpec : ChangeSpec := { name := "stationAnyOrder", fn := fun _ => fun
  | [d1, d2, d3] => { results := [.lit (.bool true)], args := [d1, d2, d3] }
  | _ => none }
def stationAnyOrderRow : OpenClaim := { program := "ytifppmbolpegpaa", sum := "c163c73a252778eff007b34c31a556c36f72f3b804a142f4ff4e41b2a95d0c90", func := "skywave/skywavelaw09.StationAnyOrder", spec := "stationAnyOrder", unfollowed := true, recurses := true, apart := false }
def StationAnyOrderSaid : Prop := stationAnyOrderRow.holds Try.pinned (OpenSpec.ofChange stationAnyOrderSpec)

/-- ITS FALSE NEIGHBOUR: 'it returns false'. Refute it at one input. -/
def stationAnyOrderWrong : ChangeSpec := { name := "stationAnyOrder", fn := fun _ => fun
  | [d1, d2, d3] => { results := [.lit (.bool false)], args := [d1, d2, d3] }
  | _ => none }
def StationAnyOrderWrongFalsely : Prop := stationAnyOrderRow.holds Try.pinned (OpenSpec.ofChange stationAnyOrderWrong)

/-- 'skywavetop.TopStationNewest': WHATEVER THE INPUT: true; the input reads as it did. -/
def topStationNewestSpec : ChangeSpec := { name := "topStationNewest", fn := fun _ => fun
  | [d1, d2] => { results := [.lit (.bool true)], args := [d1, d2] }
  | _ => none }
def topStationNewestRow : OpenClaim := { program := "ytifppmbolpegpaa", sum := "c163c73a252778eff007b34c31a556c36f72f3b804a142f4ff4e41b2a95d0c90", func := "skywave/skywavetop.TopStationNewest", spec := "topStationNewest", unfollowed := true, recurses := true, apart := false }
def TopStationNewestSaid : Prop := topStationNewestRow.holds Try.pinned (OpenSpec.ofChange topStationNewestSpec)

/-- ITS FALSE NEIGHBOUR: 'it returns false'. Refute it at one input. -/
def topStationNewestWrong : ChangeSpec := { name := "topStationNewest", fn := fun _ => fun
  | [d1, d2] => { results := [.lit (.bool false)], args := [d1, d2] }
  | _ => none }
def TopStationNewestWrongFalsely : Prop := topStationNewestRow.holds Try.pinned (OpenSpec.ofChange topStationNewestWrong)

/- THE SECOND FORM. 'bulk': how many values and letters a reading holds, each counted each time it is reached (what is shared counts as often as it is met; a slice's spare places count too). A statement '..UptoSaid' is the law's where the arguments, and the package variables that the reading takes, are together of bulk at most 1048576: NARROWER than '..Said'. Prove '..Said' where nothing that the law and all that it calls make is longer than what came in: it says more and counts as full. Else prove '..UptoSaid'. A law counts once. -/
mutual
def uptoBulk {H : Type} : DataW H → Nat
  | .lit (.string bytes) => bytes.length + 1
  | .lit _ => 1
  | .nil => 1
  | .ptr d => uptoBulk d + 1
  | .slice elems spare => uptoBulkAll elems + uptoBulkAll spare + 1
  | .agg parts => uptoBulkAll parts + 1
  | .iface _ d => uptoBulk d + 1
  | .map entries => uptoBulkEntries entries + 1
  | .held _ => 1
def uptoBulkAll {H : Type} : List (DataW H) → Nat
  | [] => 0
  | d :: r => uptoBulk d + uptoBulkAll r
def uptoBulkEntries {H : Type} : List (Lit × DataW H) → Nat
  | [] => 0
  | x :: r => uptoBulkEntry x + uptoBulkEntries r
def uptoBulkEntry {H : Type} : Lit × DataW H → Nat
  | (.string bytes, d) => bytes.length + uptoBulk d + 1
  | (_, d) => uptoBulk d + 1
 end
def uptoSmall : (H : Type) → List (DataW H) → Bool := fun _ ds => decide (uptoBulkAll ds ≤ 1048576)
def OpenSpec.upto (s : _root_.Go.ChangeSpec) : _root_.Go.OpenSpec := { _root_.Go.OpenSpec.ofChange s with cond := some uptoSmall }

/-- 'skywavetop.TopWarnQuiet', WHERE WHAT IT READS IS OF BULK AT MOST 1048576: true; the input reads as it did. -/
def topWarnQuietUptoRow : OpenClaim := { program := "ytifppmbolpegpaa", sum := "c163c73a252778eff007b34c31a556c36f72f3b804a142f4ff4e41b2a95d0c90", func := "skywave/skywavetop.TopWarnQuiet", spec := "topWarnQuiet", inPlace := ["slices.overlaps[skywave/api.WarnMessage]"], unfollowed := true, recurses := true, apart := false, narrowed := true }
def TopWarnQuietUptoSaid : Prop := topWarnQuietUptoRow.holds Try.pinned (OpenSpec.upto topWarnQuietSpec)

/-- 'skywavelaw09.StationMerges', WHERE WHAT IT READS IS OF BULK AT MOST 1048576: true; the input reads as it did. -/
def stationMergesUptoRow : OpenClaim := { program := "ytifppmbolpegpaa", sum := "c163c73a252778eff007b34c31a556c36f72f3b804a142f4ff4e41b2a95d0c90", func := "skywave/skywavelaw09.StationMerges", spec := "stationMerges", unfollowed := true, recurses := true, apart := false, narrowed := true }
def StationMergesUptoSaid : Prop := stationMergesUptoRow.holds Try.pinned (OpenSpec.upto stationMergesSpec)

/-- 'skywavelaw09.StationAnyOrder', WHERE WHAT IT READS IS OF BULK AT MOST 1048576: true; the input reads as it did. -/
def stationAnyOrderUptoRow : OpenClaim := { program := "ytifppmbolpegpaa", sum := "c163c73a252778eff007b34c31a556c36f72f3b804a142f4ff4e41b2a95d0c90", func := "skywave/skywavelaw09.StationAnyOrder", spec := "stationAnyOrder", unfollowed := true, recurses := true, apart := false, narrowed := true }
def StationAnyOrderUptoSaid : Prop := stationAnyOrderUptoRow.holds Try.pinned (OpenSpec.upto stationAnyOrderSpec)

/-- 'skywavetop.TopStationNewest', WHERE WHAT IT READS IS OF BULK AT MOST 1048576: true; the input reads as it did. -/
def topStationNewestUptoRow : OpenClaim := { program := "ytifppmbolpegpaa", sum := "c163c73a252778eff007b34c31a556c36f72f3b804a142f4ff4e41b2a95d0c90", func := "skywave/skywavetop.TopStationNewest", spec := "topStationNewest", unfollowed := true, recurses := true, apart := false, narrowed := true }
def TopStationNewestUptoSaid : Prop := topStationNewestUptoRow.holds Try.pinned (OpenSpec.upto topStationNewestSpec)

end Rows
end Go.Proofs.Ytifppmbolpegpaa
