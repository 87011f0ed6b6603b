/-
  No cell of these rows narrows 'for every input' (looked for: loops, veiled, ifaces, maps, wideKeys, modest, calm, conditions, laid).
  DERIVED. THE GIVEN ROWS OF THIS SEAT. 8 by the template 'for every input the law returns true; each argument reads behind the call as it read before'; 0 by the template 'total and deterministic' (their statements: YtaogolnoiffgiaaTotals.lean).
  GIVEN WITH THE SEED: the statements are not yours to turn. If you find one false, say at which input.
  Laid BY PROGRAM, IN A SANDBOX (cutbox-rows.mjs): the forced cells as the released guide's own fill.sh prints them over the translation 6ba0639116c663be… (all of the seat's roots in one cut). By AI agents, Wed Nov 11 2026. No macro, syntax, notation, axiom, sorry.
-/
import Derived.Test.YtaogolnoiffgiaaChecked
import GoSem.Claim
import GoSem.ClaimJoined
import GoSem.ClaimMapViews
import Derived.JoinedTies
import Derived.KernelRfl
namespace Go.Proofs.Ytaogolnoiffgiaa
/- THE CELL 'sum', in the pinned program and in every row, IS THE sha256 OF THE DUMP (.gsa) THAT YtaogolnoiffgiaaProg.lean LOADS. Nothing in Lean hashes anything: it is a label: what it is worth is what the hold of that sum in a sandbox is worth. -/
noncomputable def Try.pinned : Pinned := { name := "ytaogolnoiffgiaa", sum := "6ba0639116c663bea4421570e8f039d2e94927750208d39f50494adee5cdc1da", checked := Try.checked }
namespace Rows
def none {H : Type} : Left H := { results := [], args := [] }

/-- 'skywavetop.TopWarnQuiet': WHATEVER THE INPUT: true; the input reads as it did. -/
def topWarnQuietSpec : ChangeSpec := { name := "topWarnQuiet", fn := fun _ => fun
  | [d1, d2, d3] => { results := [.lit (.bool true)], args := [d1, d2, d3] }
  | _ => none }
def topWarnQuietRow : OpenClaim := { program := "ytaogolnoiffgiaa", sum := "6ba0639116c663bea4421570e8f039d2e94927750208d39f50494adee5cdc1da", func := "skywave/skywavetop.TopWarnQuiet", spec := "topWarnQuiet", inPlace := ["slices.overlaps[skywave/api.WarnMessage]"], unfollowed := true, recurses := true, plainKeys := false, apart := false }
def TopWarnQuietSaid : Prop := topWarnQuietRow.holds Try.pinned (OpenSpec.ofChange topWarnQuietSpec)

/-- ITS FALSE NEIGHBOUR: 'it returns false'. Refute it at one input. -/
def topWarnQuietWrong : ChangeSpec := { name := "topWarnQuiet", fn := fun _ => fun
  | [d1, d2, d3] => { results := [.lit (.bool false)], args := [d1, d2, d3] }
  | _ => none }
def TopWarnQuietWrongFalsely : Prop := topWarnQuietRow.holds Try.pinned (OpenSpec.ofChange topWarnQuietWrong)

/-- 'skywavelaw06.ChartRegions': WHATEVER THE INPUT: true; the input reads as it did. -/
def chartRegionsSpec : ChangeSpec := { name := "chartRegions", fn := fun _ => fun
  | [d1, d2] => { results := [.lit (.bool true)], args := [d1, d2] }
  | _ => none }
def chartRegionsRow : OpenClaim := { program := "ytaogolnoiffgiaa", sum := "6ba0639116c663bea4421570e8f039d2e94927750208d39f50494adee5cdc1da", func := "skywave/skywavelaw06.ChartRegions", spec := "chartRegions", unfollowed := true, recurses := true, plainKeys := false, apart := false }
def ChartRegionsSaid : Prop := chartRegionsRow.holds Try.pinned (OpenSpec.ofChange chartRegionsSpec)

/-- ITS FALSE NEIGHBOUR: 'it returns false'. Refute it at one input. -/
def chartRegionsWrong : ChangeSpec := { name := "chartRegions", fn := fun _ => fun
  | [d1, d2] => { results := [.lit (.bool false)], args := [d1, d2] }
  | _ => none }
def ChartRegionsWrongFalsely : Prop := chartRegionsRow.holds Try.pinned (OpenSpec.ofChange chartRegionsWrong)

/-- 'skywavelaw06.ChartLight': WHATEVER THE INPUT: true; the input reads as it did. -/
def chartLightSpec : ChangeSpec := { name := "chartLight", fn := fun _ => fun
  | [d1, d2, d3] => { results := [.lit (.bool true)], args := [d1, d2, d3] }
  | _ => none }
def chartLightRow : OpenClaim := { program := "ytaogolnoiffgiaa", sum := "6ba0639116c663bea4421570e8f039d2e94927750208d39f50494adee5cdc1da", func := "skywave/skywavelaw06.ChartLight", spec := "chartLight", unfollowed := true, recurses := true, plainKeys := false, apart := false }
def ChartLightSaid : Prop := chartLightRow.holds Try.pinned (OpenSpec.ofChange chartLightSpec)

/-- ITS FALSE NEIGHBOUR: 'it returns false'. Refute it at one input. -/
def chartLightWrong : ChangeSpec := { name := "chartLight", fn := fun _ => fun
  | [d1, d2, d3] => { results := [.lit (.bool false)], args := [d1, d2, d3] }
  | _ => none }
def ChartLightWrongFalsely : Prop := chartLightRow.holds Try.pinned (OpenSpec.ofChange chartLightWrong)

/-- 'skywavelaw06.ChartStations': WHATEVER THE INPUT: true; the input reads as it did. -/
def chartStationsSpec : ChangeSpec := { name := "chartStations", fn := fun _ => fun
  | [d1, d2, d3] => { results := [.lit (.bool true)], args := [d1, d2, d3] }
  | _ => none }
def chartStationsRow : OpenClaim := { program := "ytaogolnoiffgiaa", sum := "6ba0639116c663bea4421570e8f039d2e94927750208d39f50494adee5cdc1da", func := "skywave/skywavelaw06.ChartStations", spec := "chartStations", unfollowed := true, recurses := true, plainKeys := false, apart := false }
def ChartStationsSaid : Prop := chartStationsRow.holds Try.pinned (OpenSpec.ofChange chartStationsSpec)

/-- ITS FALSE NEIGHBOUR: 'it returns false'. Refute it at one input. -/
def chartStationsWrong : ChangeSpec := { name := "chartStations", fn := fun _ => fun
  | [d1, d2, d3] => { results := [.lit (.bool false)], args := [d1, d2, d3] }
  | _ => none }
def ChartStationsWrongFalsely : Prop := chartStationsRow.holds Try.pinned (OpenSpec.ofChange chartStationsWrong)

/-- 'skywavelaw06.ChartPolygons': WHATEVER THE INPUT: true; the input reads as it did. -/
def chartPolygonsSpec : ChangeSpec := { name := "chartPolygons", fn := fun _ => fun
  | [d1, d2] => { results := [.lit (.bool true)], args := [d1, d2] }
  | _ => none }
def chartPolygonsRow : OpenClaim := { program := "ytaogolnoiffgiaa", sum := "6ba0639116c663bea4421570e8f039d2e94927750208d39f50494adee5cdc1da", func := "skywave/skywavelaw06.ChartPolygons", spec := "chartPolygons", unfollowed := true, recurses := true, plainKeys := false, apart := false }
def ChartPolygonsSaid : Prop := chartPolygonsRow.holds Try.pinned (OpenSpec.ofChange chartPolygonsSpec)

/-- ITS FALSE NEIGHBOUR: 'it returns false'. Refute it at one input. -/
def chartPolygonsWrong : ChangeSpec := { name := "chartPolygons", fn := fun _ => fun
  | [d1, d2] => { results := [.lit (.bool false)], args := [d1, d2] }
  | _ => none }
def ChartPolygonsWrongFalsely : Prop := chartPolygonsRow.holds Try.pinned (OpenSpec.ofChange chartPolygonsWrong)

/-- 'skywavelaw06.ChartJoined': WHATEVER THE INPUT: true; the input reads as it did. -/
def chartJoinedSpec : ChangeSpec := { name := "chartJoined", fn := fun _ => fun
  | [d1, d2] => { results := [.lit (.bool true)], args := [d1, d2] }
  | _ => none }
def chartJoinedRow : OpenClaim := { program := "ytaogolnoiffgiaa", sum := "6ba0639116c663bea4421570e8f039d2e94927750208d39f50494adee5cdc1da", func := "skywave/skywavelaw06.ChartJoined", spec := "chartJoined", unfollowed := true, recurses := true, plainKeys := false, apart := false }
def ChartJoinedSaid : Prop := chartJoinedRow.holds Try.pinned (OpenSpec.ofChange chartJoinedSpec)

/-- ITS FALSE NEIGHBOUR: 'it returns false'. Refute it at one input. -/
def chartJoinedWrong : ChangeSpec := { name := "chartJoined", fn := fun _ => fun
  | [d1, d2] => { results := [.lit (.bool false)], args := [d1, d2] }
  | _ => none }
def ChartJoinedWrongFalsely : Prop := chartJoinedRow.holds Try.pinned (OpenSpec.ofChange chartJoinedWrong)

/-- 'skywavelaw06.ChartFilled': WHATEVER THE INPUT: true; the input reads as it did. -/
def chartFilledSpec : ChangeSpec := { name := "chartFilled", fn := fun _ => fun
  | [d1, d2] => { results := [.lit (.bool true)], args := [d1, d2] }
  | _ => none }
def chartFilledRow : OpenClaim := { program := "ytaogolnoiffgiaa", sum := "6ba0639116c663bea4421570e8f039d2e94927750208d39f50494adee5cdc1da", func := "skywave/skywavelaw06.ChartFilled", spec := "chartFilled", unfollowed := true, recurses := true, plainKeys := false, apart := false }
def ChartFilledSaid : Prop := chartFilledRow.holds Try.pinned (OpenSpec.ofChange chartFilledSpec)

/-- ITS FALSE NEIGHBOUR: 'it returns false'. Refute it at one input. -/
def chartFilledWrong : ChangeSpec := { name := "chartFilled", fn := fun _ => fun
  | [d1, d2] => { results := [.lit (.bool false)], args := [d1, d2] }
  | _ => none }
def ChartFilledWrongFalsely : Prop := chartFilledRow.holds Try.pinned (OpenSpec.ofChange chartFilledWrong)

/-- 'skywavelaw06.ChartClosed': WHATEVER THE INPUT: true; the input reads as it did. -/
def chartClosedSpec : ChangeSpec := { name := "chartClosed", fn := fun _ => fun
  | [d1, d2] => { results := [.lit (.bool true)], args := [d1, d2] }
  | _ => none }
def chartClosedRow : OpenClaim := { program := "ytaogolnoiffgiaa", sum := "6ba0639116c663bea4421570e8f039d2e94927750208d39f50494adee5cdc1da", func := "skywave/skywavelaw06.ChartClosed", spec := "chartClosed", unfollowed := true, recurses := true, plainKeys := false, apart := false }
def ChartClosedSaid : Prop := chartClosedRow.holds Try.pinned (OpenSpec.ofChange chartClosedSpec)

/-- ITS FALSE NEIGHBOUR: 'it returns false'. Refute it at one input. -/
def chartClosedWrong : ChangeSpec := { name := "chartClosed", fn := fun _ => fun
  | [d1, d2] => { results := [.lit (.bool false)], args := [d1, d2] }
  | _ => none }
def ChartClosedWrongFalsely : Prop := chartClosedRow.holds Try.pinned (OpenSpec.ofChange chartClosedWrong)

/- THE SECOND FORM. 'bulk': how many values and letters a reading holds, each counted each time it is reached (what is shared counts as often as it is met; a slice's spare places count too). A statement '..UptoSaid' is the law's where the arguments, and the package variables that the reading takes, are together of bulk at most 1048576: NARROWER than '..Said'. Prove '..Said' where nothing that the law and all that it calls make is longer than what came in: it says more and counts as full. Else prove '..UptoSaid'. A law counts once. -/
mutual
def uptoBulk {H : Type} : DataW H → Nat
  | .lit (.string bytes) => bytes.length + 1
  | .lit _ => 1
  | .nil => 1
  | .ptr d => uptoBulk d + 1
  | .slice elems spare => uptoBulkAll elems + uptoBulkAll spare + 1
  | .agg parts => uptoBulkAll parts + 1
  | .iface _ d => uptoBulk d + 1
  | .map entries => uptoBulkEntries entries + 1
  | .held _ => 1
def uptoBulkAll {H : Type} : List (DataW H) → Nat
  | [] => 0
  | d :: r => uptoBulk d + uptoBulkAll r
def uptoBulkEntries {H : Type} : List (Lit × DataW H) → Nat
  | [] => 0
  | x :: r => uptoBulkEntry x + uptoBulkEntries r
def uptoBulkEntry {H : Type} : Lit × DataW H → Nat
  | (.string bytes, d) => bytes.length + uptoBulk d + 1
  | (_, d) => uptoBulk d + 1
 end
def uptoSmall : (H : Type) → List (DataW H) → Bool := fun _ ds => decide (uptoBulkAll ds ≤ 1048576)
def OpenSpec.upto (s : _root_.Go.ChangeSpec) : _root_.Go.OpenSpec := { _root_.Go.OpenSpec.ofChange s with cond := some uptoSmall }

/-- 'skywavetop.TopWarnQuiet', WHERE WHAT IT READS IS OF BULK AT MOST 1048576: true; the input reads as it did. -/
def topWarnQuietUptoRow : OpenClaim := { program := "ytaogolnoiffgiaa", sum := "6ba0639116c663bea4421570e8f039d2e94927750208d39f50494adee5cdc1da", func := "skywave/skywavetop.TopWarnQuiet", spec := "topWarnQuiet", inPlace := ["slices.overlaps[skywave/api.WarnMessage]"], unfollowed := true, recurses := true, plainKeys := false, apart := false, narrowed := true }
def TopWarnQuietUptoSaid : Prop := topWarnQuietUptoRow.holds Try.pinned (OpenSpec.upto topWarnQuietSpec)

/-- 'skywavelaw06.ChartRegions', WHERE WHAT IT READS IS OF BULK AT MOST 1048576: true; the input reads as it did. -/
def chartRegionsUptoRow : OpenClaim := { program := "ytaogolnoiffgiaa", sum := "6ba0639116c663bea4421570e8f039d2e94927750208d39f50494adee5cdc1da", func := "skywave/skywavelaw06.ChartRegions", spec := "chartRegions", unfollowed := true, recurses := true, plainKeys := false, apart := false, narrowed := true }
def ChartRegionsUptoSaid : Prop := chartRegionsUptoRow.holds Try.pinned (OpenSpec.upto chartRegionsSpec)

/-- 'skywavelaw06.ChartLight', WHERE WHAT IT READS IS OF BULK AT MOST 1048576: true; the input reads as it did. -/
def chartLightUptoRow : OpenClaim := { program := "ytaogolnoiffgiaa", sum := "6ba0639116c663bea4421570e8f039d2e94927750208d39f50494adee5cdc1da", func := "skywave/skywavelaw06.ChartLight", spec := "chartLight", unfollowed := true, recurses := true, plainKeys := false, apart := false, narrowed := true }
def ChartLightUptoSaid : Prop := chartLightUptoRow.holds Try.pinned (OpenSpec.upto chartLightSpec)

/-- 'skywavelaw06.ChartStations', WHERE WHAT IT READS IS OF BULK AT MOST 1048576: true; the input reads as it did. -/
def chartStationsUptoRow : OpenClaim := { program := "ytaogolnoiffgiaa", sum := "6ba0639116c663bea4421570e8f039d2e94927750208d39f50494adee5cdc1da", func := "skywave/skywavelaw06.ChartStations", spec := "chartStations", unfollowed := true, recurses := true, plainKeys := false, apart := false, narrowed := true }
def ChartStationsUptoSaid : Prop := chartStationsUptoRow.holds Try.pinned (OpenSpec.upto chartStationsSpec)

/-- 'skywavelaw06.ChartPolygons', WHERE WHAT IT READS IS OF BULK AT MOST 1048576: true; the input reads as it did. -/
def chartPolygonsUptoRow : OpenClaim := { program := "ytaogolnoiffgiaa", sum := "6ba0639116c663bea4421570e8f039d2e94927750208d39f50494adee5cdc1da", func := "skywave/skywavelaw06.ChartPolygons", spec := "chartPolygons", unfollowed := true, recurses := true, plainKeys := false, apart := false, narrowed := true }
def ChartPolygonsUptoSaid : Prop := chartPolygonsUptoRow.holds Try.pinned (OpenSpec.upto chartPolygonsSpec)

/-- 'skywavelaw06.ChartJoined', WHERE WHAT IT READS IS OF BULK AT MOST 1048576: true; the input reads as it did. -/
def chartJoinedUptoRow : OpenClaim := { program := "ytaogolnoiffgiaa", sum := "6ba0639116c663bea4421570e8f039d2e94927750208d39f50494adee5cdc1da", func := "skywave/skywavelaw06.ChartJoined", spec := "chartJoined", unfollowed := true, recurses := true, plainKeys := false, apart := false, narrowed := true }
def ChartJoinedUptoSaid : Prop := chartJoinedUptoRow.holds Try.pinned (OpenSpec.upto chartJoinedSpec)

/-- 'skywavelaw06.ChartFilled', WHERE WHAT IT READS IS OF BULK AT MOST 1048576: true; the input reads as it did. -/
def chartFilledUptoRow : OpenClaim := { program := "ytaogolnoiffgiaa", sum := "6ba0639116c663bea4421570e8f039d2e94927750208d39f50494adee5cdc1da", func := "skywave/skywavelaw06.ChartFilled", spec := "chartFilled", unfollowed := true, recurses := true, plainKeys := false, apart := false, narrowed := true }
def ChartFilledUptoSaid : Prop := chartFilledUptoRow.holds Try.pinned (OpenSpec.upto chartFilledSpec)

/-- 'skywavelaw06.ChartClosed', WHERE WHAT IT READS IS OF BULK AT MOST 1048576: true; the input reads as it did. -/
def chartClosedUptoRow : OpenClaim := { program := "ytaogolnoiffgiaa", sum := "6ba0639116c663bea4421570e8f039d2e94927750208d39f50494adee5cdc1da", func := "skywave/skywavelaw06.ChartClosed", spec := "chartClosed", unfollowed := true, recurses := true, plainKeys := false, apart := false, narrowed := true }
def ChartClosedUptoSaid : Prop := chartClosedUptoRow.holds Try.pinned (OpenSpec.upto chartClosedSpec)

end Rows
end Go.Proofs.Ytaogolnoiffgiaa
