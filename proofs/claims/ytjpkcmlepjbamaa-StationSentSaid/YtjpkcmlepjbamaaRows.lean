/-
  No cell of these rows narrows 'for every input' (looked for: loops, veiled, ifaces, maps, wideKeys, modest, calm, conditions, laid).
  DERIVED. THE GIVEN ROWS OF THIS SEAT. 14 by the template 'for every input the law returns true; each argument reads behind the call as it read before'; 0 by the template 'total and deterministic' (their statements: YtjpkcmlepjbamaaTotals.lean).
  GIVEN WITH THE SEED: the statements are not yours to turn. If you find one false, say at which input.
  Laid BY PROGRAM, IN A SANDBOX (cutbox-rows.mjs): the forced cells as the released guide's own fill.sh prints them over the translation a84af4977e3a7ea8… (all of the seat's roots in one cut). By AI agents, Wed Nov 11 2026. No macro, syntax, notation, axiom, sorry.
-/
import Derived.Test.YtjpkcmlepjbamaaChecked
import GoSem.Claim
import GoSem.ClaimJoined
import GoSem.ClaimMapViews
import Derived.JoinedTies
import Derived.KernelRfl
namespace Go.Proofs.Ytjpkcmlepjbamaa
/- THE CELL 'sum', in the pinned program and in every row, IS THE sha256 OF THE DUMP (.gsa) THAT YtjpkcmlepjbamaaProg.lean LOADS. Nothing in Lean hashes anything: it is a label: what it is worth is what the hold of that sum in a sandbox is worth. -/
noncomputable def Try.pinned : Pinned := { name := "ytjpkcmlepjbamaa", sum := "a84af4977e3a7ea84dce1f09918e46ae33a90e46da2ecbdc6e5ebd9fa7526f83", checked := Try.checked }
namespace Rows
def none {H : Type} : Left H := { results := [], args := [] }

/-- 'skywavelaw09.StationBursts': WHATEVER THE INPUT: true; the input reads as it did. -/
def stationBurstsSpec : ChangeSpec := { name := "stationBursts", fn := fun _ => fun
  | [d1, d2, d3] => { results := [.lit (.bool true)], args := [d1, d2, d3] }
  | _ => none }
def stationBurstsRow : OpenClaim := { program := "ytjpkcmlepjbamaa", sum := "a84af4977e3a7ea84dce1f09918e46ae33a90e46da2ecbdc6e5ebd9fa7526f83", func := "skywave/skywavelaw09.StationBursts", spec := "stationBursts", unfollowed := true, recurses := true, apart := false }
def StationBurstsSaid : Prop := stationBurstsRow.holds Try.pinned (OpenSpec.ofChange stationBurstsSpec)

/-- ITS FALSE NEIGHBOUR: 'it returns false'. Refute it at one input. -/
def stationBurstsWrong : ChangeSpec := { name := "stationBursts", fn := fun _ => fun
  | [d1, d2, d3] => { results := [.lit (.bool false)], args := [d1, d2, d3] }
  | _ => none }
def StationBurstsWrongFalsely : Prop := stationBurstsRow.holds Try.pinned (OpenSpec.ofChange stationBurstsWrong)

/-- 'skywavelaw09.StationTrueOffset': WHATEVER THE INPUT: true; the input reads as it did. -/
def stationTrueOffsetSpec : ChangeSpec := { name := "stationTrueOffset", fn := fun _ => fun
  | [d1, d2, d3] => { results := [.lit (.bool true)], args := [d1, d2, d3] }
  | _ => none }
def stationTrueOffsetRow : OpenClaim := { program := "ytjpkcmlepjbamaa", sum := "a84af4977e3a7ea84dce1f09918e46ae33a90e46da2ecbdc6e5ebd9fa7526f83", func := "skywave/skywavelaw09.StationTrueOffset", spec := "stationTrueOffset", unfollowed := true, recurses := true, apart := false }
def StationTrueOffsetSaid : Prop := stationTrueOffsetRow.holds Try.pinned (OpenSpec.ofChange stationTrueOffsetSpec)

/-- ITS FALSE NEIGHBOUR: 'it returns false'. Refute it at one input. -/
def stationTrueOffsetWrong : ChangeSpec := { name := "stationTrueOffset", fn := fun _ => fun
  | [d1, d2, d3] => { results := [.lit (.bool false)], args := [d1, d2, d3] }
  | _ => none }
def StationTrueOffsetWrongFalsely : Prop := stationTrueOffsetRow.holds Try.pinned (OpenSpec.ofChange stationTrueOffsetWrong)

/-- 'skywavelaw09.StationClocks': WHATEVER THE INPUT: true; the input reads as it did. -/
def stationClocksSpec : ChangeSpec := { name := "stationClocks", fn := fun _ => fun
  | [d1, d2, d3] => { results := [.lit (.bool true)], args := [d1, d2, d3] }
  | _ => none }
def stationClocksRow : OpenClaim := { program := "ytjpkcmlepjbamaa", sum := "a84af4977e3a7ea84dce1f09918e46ae33a90e46da2ecbdc6e5ebd9fa7526f83", func := "skywave/skywavelaw09.StationClocks", spec := "stationClocks", unfollowed := true, recurses := true, apart := false }
def StationClocksSaid : Prop := stationClocksRow.holds Try.pinned (OpenSpec.ofChange stationClocksSpec)

/-- ITS FALSE NEIGHBOUR: 'it returns false'. Refute it at one input. -/
def stationClocksWrong : ChangeSpec := { name := "stationClocks", fn := fun _ => fun
  | [d1, d2, d3] => { results := [.lit (.bool false)], args := [d1, d2, d3] }
  | _ => none }
def StationClocksWrongFalsely : Prop := stationClocksRow.holds Try.pinned (OpenSpec.ofChange stationClocksWrong)

/-- 'skywavelaw09.StationContradicts': WHATEVER THE INPUT: true; the input reads as it did. -/
def stationContradictsSpec : ChangeSpec := { name := "stationContradicts", fn := fun _ => fun
  | [d1, d2, d3] => { results := [.lit (.bool true)], args := [d1, d2, d3] }
  | _ => none }
def stationContradictsRow : OpenClaim := { program := "ytjpkcmlepjbamaa", sum := "a84af4977e3a7ea84dce1f09918e46ae33a90e46da2ecbdc6e5ebd9fa7526f83", func := "skywave/skywavelaw09.StationContradicts", spec := "stationContradicts", unfollowed := true, recurses := true, apart := false }
def StationContradictsSaid : Prop := stationContradictsRow.holds Try.pinned (OpenSpec.ofChange stationContradictsSpec)

/-- ITS FALSE NEIGHBOUR: 'it returns false'. Refute it at one input. -/
def stationContradictsWrong : ChangeSpec := { name := "stationContradicts", fn := fun _ => fun
  | [d1, d2, d3] => { results := [.lit (.bool false)], args := [d1, d2, d3] }
  | _ => none }
def StationContradictsWrongFalsely : Prop := stationContradictsRow.holds Try.pinned (OpenSpec.ofChange stationContradictsWrong)

/-- 'skywavelaw09.StationPacks': WHATEVER THE INPUT: true; the input reads as it did. -/
def stationPacksSpec : ChangeSpec := { name := "stationPacks", fn := fun _ => fun
  | [d1, d2] => { results := [.lit (.bool true)], args := [d1, d2] }
  | _ => none }
def stationPacksRow : OpenClaim := { program := "ytjpkcmlepjbamaa", sum := "a84af4977e3a7ea84dce1f09918e46ae33a90e46da2ecbdc6e5ebd9fa7526f83", func := "skywave/skywavelaw09.StationPacks", spec := "stationPacks", unfollowed := true, recurses := true, apart := false }
def StationPacksSaid : Prop := stationPacksRow.holds Try.pinned (OpenSpec.ofChange stationPacksSpec)

/-- ITS FALSE NEIGHBOUR: 'it returns false'. Refute it at one input. -/
def stationPacksWrong : ChangeSpec := { name := "stationPacks", fn := fun _ => fun
  | [d1, d2] => { results := [.lit (.bool false)], args := [d1, d2] }
  | _ => none }
def StationPacksWrongFalsely : Prop := stationPacksRow.holds Try.pinned (OpenSpec.ofChange stationPacksWrong)

/-- 'skywavelaw09.StationThereAndBack': WHATEVER THE INPUT: true; the input reads as it did. -/
def stationThereAndBackSpec : ChangeSpec := { name := "stationThereAndBack", fn := fun _ => fun
  | [d1, d2, d3] => { results := [.lit (.bool true)], args := [d1, d2, d3] }
  | _ => none }
def stationThereAndBackRow : OpenClaim := { program := "ytjpkcmlepjbamaa", sum := "a84af4977e3a7ea84dce1f09918e46ae33a90e46da2ecbdc6e5ebd9fa7526f83", func := "skywave/skywavelaw09.StationThereAndBack", spec := "stationThereAndBack", unfollowed := true, recurses := true, apart := false }
def StationThereAndBackSaid : Prop := stationThereAndBackRow.holds Try.pinned (OpenSpec.ofChange stationThereAndBackSpec)

/-- ITS FALSE NEIGHBOUR: 'it returns false'. Refute it at one input. -/
def stationThereAndBackWrong : ChangeSpec := { name := "stationThereAndBack", fn := fun _ => fun
  | [d1, d2, d3] => { results := [.lit (.bool false)], args := [d1, d2, d3] }
  | _ => none }
def StationThereAndBackWrongFalsely : Prop := stationThereAndBackRow.holds Try.pinned (OpenSpec.ofChange stationThereAndBackWrong)

/-- 'skywavelaw09.StationPlans': WHATEVER THE INPUT: true; the input reads as it did. -/
def stationPlansSpec : ChangeSpec := { name := "stationPlans", fn := fun _ => fun
  | [d1, d2] => { results := [.lit (.bool true)], args := [d1, d2] }
  | _ => none }
def stationPlansRow : OpenClaim := { program := "ytjpkcmlepjbamaa", sum := "a84af4977e3a7ea84dce1f09918e46ae33a90e46da2ecbdc6e5ebd9fa7526f83", func := "skywave/skywavelaw09.StationPlans", spec := "stationPlans", unfollowed := true, recurses := true, apart := false }
def StationPlansSaid : Prop := stationPlansRow.holds Try.pinned (OpenSpec.ofChange stationPlansSpec)

/-- ITS FALSE NEIGHBOUR: 'it returns false'. Refute it at one input. -/
def stationPlansWrong : ChangeSpec := { name := "stationPlans", fn := fun _ => fun
  | [d1, d2] => { results := [.lit (.bool false)], args := [d1, d2] }
  | _ => none }
def StationPlansWrongFalsely : Prop := stationPlansRow.holds Try.pinned (OpenSpec.ofChange stationPlansWrong)

/-- 'skywavelaw09.StationQueues': WHATEVER THE INPUT: true; the input reads as it did. -/
def stationQueuesSpec : ChangeSpec := { name := "stationQueues", fn := fun _ => fun
  | [d] => { results := [.lit (.bool true)], args := [d] }
  | _ => none }
def stationQueuesRow : OpenClaim := { program := "ytjpkcmlepjbamaa", sum := "a84af4977e3a7ea84dce1f09918e46ae33a90e46da2ecbdc6e5ebd9fa7526f83", func := "skywave/skywavelaw09.StationQueues", spec := "stationQueues", unfollowed := true, recurses := true, apart := false }
def StationQueuesSaid : Prop := stationQueuesRow.holds Try.pinned (OpenSpec.ofChange stationQueuesSpec)

/-- ITS FALSE NEIGHBOUR: 'it returns false'. Refute it at one input. -/
def stationQueuesWrong : ChangeSpec := { name := "stationQueues", fn := fun _ => fun
  | [d] => { results := [.lit (.bool false)], args := [d] }
  | _ => none }
def StationQueuesWrongFalsely : Prop := stationQueuesRow.holds Try.pinned (OpenSpec.ofChange stationQueuesWrong)

/-- 'skywavelaw09.StationSent': WHATEVER THE INPUT: true; the input reads as it did. -/
def stationSentSpec : ChangeSpec := { name := "stationSent", fn := fun _ => fun
  | [d1, d2] => { results := [.lit (.bool true)], args := [d1, d2] }
  | _ => none }
def stationSentRow : OpenClaim := { program := "ytjpkcmlepjbamaa", sum := "a84af4977e3a7ea84dce1f09918e46ae33a90e46da2ecbdc6e5ebd9fa7526f83", func := "skywave/skywavelaw09.StationSent", spec := "stationSent", unfollowed := true, recurses := true, apart := false }
def StationSentSaid : Prop := stationSentRow.holds Try.pinned (OpenSpec.ofChange stationSentSpec)

/-- ITS FALSE NEIGHBOUR: 'it returns false'. Refute it at one input. -/
def stationSentWrong : ChangeSpec := { name := "stationSent", fn := fun _ => fun
  | [d1, d2] => { results := [.lit (.bool false)], args := [d1, d2] }
  | _ => none }
def StationSentWrongFalsely : Prop := stationSentRow.holds Try.pinned (OpenSpec.ofChange stationSentWrong)

/-- 'skywavelaw09.StationPuts': WHATEVER THE INPUT: true; the input reads as it did. -/
def stationPutsSpec : ChangeSpec := { name := "stationPuts", fn := fun _ => fun
  | [d1, d2, d3] => { results := [.lit (.bool true)], args := [d1, d2, d3] }
  | _ => none }
def stationPutsRow : OpenClaim := { program := "ytjpkcmlepjbamaa", sum := "a84af4977e3a7ea84dce1f09918e46ae33a90e46da2ecbdc6e5ebd9fa7526f83", func := "skywave/skywavelaw09.StationPuts", spec := "stationPuts", unfollowed := true, recurses := true, apart := false }
def StationPutsSaid : Prop := stationPutsRow.holds Try.pinned (OpenSpec.ofChange stationPutsSpec)

/-- ITS FALSE NEIGHBOUR: 'it returns false'. Refute it at one input. -/
def stationPutsWrong : ChangeSpec := { name := "stationPuts", fn := fun _ => fun
  | [d1, d2, d3] => { results := [.lit (.bool false)], args := [d1, d2, d3] }
  | _ => none }
def StationPutsWrongFalsely : Prop := stationPutsRow.holds Try.pinned (OpenSpec.ofChange stationPutsWrong)

/-- 'skywavelaw09.StationKept': WHATEVER THE INPUT: true; the input reads as it did. -/
def stationKeptSpec : ChangeSpec := { name := "stationKept", fn := fun _ => fun
  | [d1, d2, d3] => { results := [.lit (.bool true)], args := [d1, d2, d3] }
  | _ => none }
def stationKeptRow : OpenClaim := { program := "ytjpkcmlepjbamaa", sum := "a84af4977e3a7ea84dce1f09918e46ae33a90e46da2ecbdc6e5ebd9fa7526f83", func := "skywave/skywavelaw09.StationKept", spec := "stationKept", unfollowed := true, recurses := true, apart := false }
def StationKeptSaid : Prop := stationKeptRow.holds Try.pinned (OpenSpec.ofChange stationKeptSpec)

/-- ITS FALSE NEIGHBOUR: 'it returns false'. Refute it at one input. -/
def stationKeptWrong : ChangeSpec := { name := "stationKept", fn := fun _ => fun
  | [d1, d2, d3] => { results := [.lit (.bool false)], args := [d1, d2, d3] }
  | _ => none }
def StationKeptWrongFalsely : Prop := stationKeptRow.holds Try.pinned (OpenSpec.ofChange stationKeptWrong)

/-- 'skywavelaw09.StationMerges': WHATEVER THE INPUT: true; the input reads as it did. -/
def stationMergesSpec : ChangeSpec := { name := "stationMerges", fn := fun _ => fun
  | [d1, d2] => { results := [.lit (.bool true)], args := [d1, d2] }
  | _ => none }
def stationMergesRow : OpenClaim := { program := "ytjpkcmlepjbamaa", sum := "a84af4977e3a7ea84dce1f09918e46ae33a90e46da2ecbdc6e5ebd9fa7526f83", func := "skywave/skywavelaw09.StationMerges", spec := "stationMerges", unfollowed := true, recurses := true, apart := false }
def StationMergesSaid : Prop := stationMergesRow.holds Try.pinned (OpenSpec.ofChange stationMergesSpec)

/-- ITS FALSE NEIGHBOUR: 'it returns false'. Refute it at one input. -/
def stationMergesWrong : ChangeSpec := { name := "stationMerges", fn := fun _ => fun
  | [d1, d2] => { results := [.lit (.bool false)], args := [d1, d2] }
  | _ => none }
def StationMergesWrongFalsely : Prop := stationMergesRow.holds Try.pinned (OpenSpec.ofChange stationMergesWrong)

/-- 'skywavelaw09.StationAnyOrder': WHATEVER THE INPUT: true; the input reads as it did. -/
def stationAnyOrderSpec : ChangeSpec := { name := "stationAnyOrder", fn := fun _ => fun
  | [d1, d2, d3] => { results := [.lit (.bool true)], args := [d1, d2, d3] }
  | _ => none }
def stationAnyOrderRow : OpenClaim := { program := "ytjpkcmlepjbamaa", sum := "a84af4977e3a7ea84dce1f09918e46ae33a90e46da2ecbdc6e5ebd9fa7526f83", func := "skywave/skywavelaw09.StationAnyOrder", spec := "stationAnyOrder", unfollowed := true, recurses := true, apart := false }
def StationAnyOrderSaid : Prop := stationAnyOrderRow.holds Try.pinned (OpenSpec.ofChange stationAnyOrderSpec)

/-- ITS FALSE NEIGHBOUR: 'it returns false'. Refute it at one input. -/
def stationAnyOrderWrong : ChangeSpec := { name := "stationAnyOrder", fn := fun _ => fun
  | [d1, d2, d3] => { results := [.lit (.bool false)], args := [d1, d2, d3] }
  | _ => none }
def StationAnyOrderWrongFalsely : Prop := stationAnyOrderRow.holds Try.pinned (OpenSpec.ofChange stationAnyOrderWrong)

/-- 'skywavetop.TopStationNewest': WHATEVER THE INPUT: true; the input reads as it did. -/
def topStationNewestSpec : ChangeSpec := { name := "topStationNewest", fn := fun _ => fun
  | [d1, d2] => { results := [.lit (.bool true)], args := [d1, d2] }
  | _ => none }
def topStationNewestRow : OpenClaim := { program := "ytjpkcmlepjbamaa", sum := "a84af4977e3a7ea84dce1f09918e46ae33a90e46da2ecbdc6e5ebd9fa7526f83", func := "skywave/skywavetop.TopStationNewest", spec := "topStationNewest", unfollowed := true, recurses := true, apart := false }
def TopStationNewestSaid : Prop := topStationNewestRow.holds Try.pinned (OpenSpec.ofChange topStationNewestSpec)

/-- ITS FALSE NEIGHBOUR: 'it returns false'. Refute it at one input. -/
def topStationNewestWrong : ChangeSpec := { name := "topStationNewest", fn := fun _ => fun
  | [d1, d2] => { results := [.lit (.bool false)], args := [d1, d2] }
  | _ => none }
def TopStationNewestWrongFalsely : Prop := topStationNewestRow.holds Try.pinned (OpenSpec.ofChange topStationNewestWrong)

/- THE SECOND FORM. 'bulk': how many values and letters a reading holds, each counted each time it is reached (what is shared counts as often as it is met; a slice's spare places count too). A statement '..UptoSaid' is the law's where the arguments, and the package variables that the reading takes, are together of bulk at most 1048576: NARROWER than '..Said'. Prove '..Said' where nothing that the law and all that it calls make is longer than what came in: it says more and counts as full. Else prove '..UptoSaid'. A law counts once. -/
mutual
def uptoBulk {H : Type} : DataW H → Nat
  | .lit (.string bytes) => bytes.length + 1
  | .lit _ => 1
  | .nil => 1
  | .ptr d => uptoBulk d + 1
  | .slice elems spare => uptoBulkAll elems + uptoBulkAll spare + 1
  | .agg parts => uptoBulkAll parts + 1
  | .iface _ d => uptoBulk d + 1
  | .map entries => uptoBulkEntries entries + 1
  | .held _ => 1
def uptoBulkAll {H : Type} : List (DataW H) → Nat
  | [] => 0
  | d :: r => uptoBulk d + uptoBulkAll r
def uptoBulkEntries {H : Type} : List (Lit × DataW H) → Nat
  | [] => 0
  | x :: r => uptoBulkEntry x + uptoBulkEntries r
def uptoBulkEntry {H : Type} : Lit × DataW H → Nat
  | (.string bytes, d) => bytes.length + uptoBulk d + 1
  | (_, d) => uptoBulk d + 1
 end
def uptoSmall : (H : Type) → List (DataW H) → Bool := fun _ ds => decide (uptoBulkAll ds ≤ 1048576)
def OpenSpec.upto (s : _root_.Go.ChangeSpec) : _root_.Go.OpenSpec := { _root_.Go.OpenSpec.ofChange s with cond := some uptoSmall }

/-- 'skywavelaw09.StationBursts', WHERE WHAT IT READS IS OF BULK AT MOST 1048576: true; the input reads as it did. -/
def stationBurstsUptoRow : OpenClaim := { program := "ytjpkcmlepjbamaa", sum := "a84af4977e3a7ea84dce1f09918e46ae33a90e46da2ecbdc6e5ebd9fa7526f83", func := "skywave/skywavelaw09.StationBursts", spec := "stationBursts", unfollowed := true, recurses := true, apart := false, narrowed := true }
def StationBurstsUptoSaid : Prop := stationBurstsUptoRow.holds Try.pinned (OpenSpec.upto stationBurstsSpec)

/-- 'skywavelaw09.StationTrueOffset', WHERE WHAT IT READS IS OF BULK AT MOST 1048576: true; the input reads as it did. -/
def stationTrueOffsetUptoRow : OpenClaim := { program := "ytjpkcmlepjbamaa", sum := "a84af4977e3a7ea84dce1f09918e46ae33a90e46da2ecbdc6e5ebd9fa7526f83", func := "skywave/skywavelaw09.StationTrueOffset", spec := "stationTrueOffset", unfollowed := true, recurses := true, apart := false, narrowed := true }
def StationTrueOffsetUptoSaid : Prop := stationTrueOffsetUptoRow.holds Try.pinned (OpenSpec.upto stationTrueOffsetSpec)

/-- 'skywavelaw09.StationClocks', WHERE WHAT IT READS IS OF BULK AT MOST 1048576: true; the input reads as it did. -/
def stationClocksUptoRow : OpenClaim := { program := "ytjpkcmlepjbamaa", sum := "a84af4977e3a7ea84dce1f09918e46ae33a90e46da2ecbdc6e5ebd9fa7526f83", func := "skywave/skywavelaw09.StationClocks", spec := "stationClocks", unfollowed := true, recurses := true, apart := false, narrowed := true }
def StationClocksUptoSaid : Prop := stationClocksUptoRow.holds Try.pinned (OpenSpec.upto stationClocksSpec)

/-- 'skywavelaw09.StationContradicts', WHERE WHAT IT READS IS OF BULK AT MOST 1048576: true; the input reads as it did. -/
def stationContradictsUptoRow : OpenClaim := { program := "ytjpkcmlepjbamaa", sum := "a84af4977e3a7ea84dce1f09918e46ae33a90e46da2ecbdc6e5ebd9fa7526f83", func := "skywave/skywavelaw09.StationContradicts", spec := "stationContradicts", unfollowed := true, recurses := true, apart := false, narrowed := true }
def StationContradictsUptoSaid : Prop := stationContradictsUptoRow.holds Try.pinned (OpenSpec.upto stationContradictsSpec)

/-- 'skywavelaw09.StationPacks', WHERE WHAT IT READS IS OF BULK AT MOST 1048576: true; the input reads as it did. -/
def stationPacksUptoRow : OpenClaim := { program := "ytjpkcmlepjbamaa", sum := "a84af4977e3a7ea84dce1f09918e46ae33a90e46da2ecbdc6e5ebd9fa7526f83", func := "skywave/skywavelaw09.StationPacks", spec := "stationPacks", unfollowed := true, recurses := true, apart := false, narrowed := true }
def StationPacksUptoSaid : Prop := stationPacksUptoRow.holds Try.pinned (OpenSpec.upto stationPacksSpec)

/-- 'skywavelaw09.StationThereAndBack', WHERE WHAT IT READS IS OF BULK AT MOST 1048576: true; the input reads as it did. -/
def stationThereAndBackUptoRow : OpenClaim := { program := "ytjpkcmlepjbamaa", sum := "a84af4977e3a7ea84dce1f09918e46ae33a90e46da2ecbdc6e5ebd9fa7526f83", func := "skywave/skywavelaw09.StationThereAndBack", spec := "stationThereAndBack", unfollowed := true, recurses := true, apart := false, narrowed := true }
def StationThereAndBackUptoSaid : Prop := stationThereAndBackUptoRow.holds Try.pinned (OpenSpec.upto stationThereAndBackSpec)

/-- 'skywavelaw09.StationPlans', WHERE WHAT IT READS IS OF BULK AT MOST 1048576: true; the input reads as it did. -/
def stationPlansUptoRow : OpenClaim := { program := "ytjpkcmlepjbamaa", sum := "a84af4977e3a7ea84dce1f09918e46ae33a90e46da2ecbdc6e5ebd9fa7526f83", func := "skywave/skywavelaw09.StationPlans", spec := "stationPlans", unfollowed := true, recurses := true, apart := false, narrowed := true }
def StationPlansUptoSaid : Prop := stationPlansUptoRow.holds Try.pinned (OpenSpec.upto stationPlansSpec)

/-- 'skywavelaw09.StationQueues', WHERE WHAT IT READS IS OF BULK AT MOST 1048576: true; the input reads as it did. -/
def stationQueuesUptoRow : OpenClaim := { program := "ytjpkcmlepjbamaa", sum := "a84af4977e3a7ea84dce1f09918e46ae33a90e46da2ecbdc6e5ebd9fa7526f83", func := "skywave/skywavelaw09.StationQueues", spec := "stationQueues", unfollowed := true, recurses := true, apart := false, narrowed := true }
def StationQueuesUptoSaid : Prop := stationQueuesUptoRow.holds Try.pinned (OpenSpec.upto stationQueuesSpec)

/-- 'skywavelaw09.StationSent', WHERE WHAT IT READS IS OF BULK AT MOST 1048576: true; the input reads as it did. -/
def stationSentUptoRow : OpenClaim := { program := "ytjpkcmlepjbamaa", sum := "a84af4977e3a7ea84dce1f09918e46ae33a90e46da2ecbdc6e5ebd9fa7526f83", func := "skywave/skywavelaw09.StationSent", spec := "stationSent", unfollowed := true, recurses := true, apart := false, narrowed := true }
def StationSentUptoSaid : Prop := stationSentUptoRow.holds Try.pinned (OpenSpec.upto stationSentSpec)

/-- 'skywavelaw09.StationPuts', WHERE WHAT IT READS IS OF BULK AT MOST 1048576: true; the input reads as it did. -/
def stationPutsUptoRow : OpenClaim := { program := "ytjpkcmlepjbamaa", sum := "a84af4977e3a7ea84dce1f09918e46ae33a90e46da2ecbdc6e5ebd9fa7526f83", func := "skywave/skywavelaw09.StationPuts", spec := "stationPuts", unfollowed := true, recurses := true, apart := false, narrowed := true }
def StationPutsUptoSaid : Prop := stationPutsUptoRow.holds Try.pinned (OpenSpec.upto stationPutsSpec)

/-- 'skywavelaw09.StationKept', WHERE WHAT IT READS IS OF BULK AT MOST 1048576: true; the input reads as it did. -/
def stationKeptUptoRow : OpenClaim := { program := "ytjpkcmlepjbamaa", sum := "a84af4977e3a7ea84dce1f09918e46ae33a90e46da2ecbdc6e5ebd9fa7526f83", func := "skywave/skywavelaw09.StationKept", spec := "stationKept", unfollowed := true, recurses := true, apart := false, narrowed := true }
def StationKeptUptoSaid : Prop := stationKeptUptoRow.holds Try.pinned (OpenSpec.upto stationKeptSpec)

/-- 'skywavelaw09.StationMerges', WHERE WHAT IT READS IS OF BULK AT MOST 1048576: true; the input reads as it did. -/
def stationMergesUptoRow : OpenClaim := { program := "ytjpkcmlepjbamaa", sum := "a84af4977e3a7ea84dce1f09918e46ae33a90e46da2ecbdc6e5ebd9fa7526f83", func := "skywave/skywavelaw09.StationMerges", spec := "stationMerges", unfollowed := true, recurses := true, apart := false, narrowed := true }
def StationMergesUptoSaid : Prop := stationMergesUptoRow.holds Try.pinned (OpenSpec.upto stationMergesSpec)

/-- 'skywavelaw09.StationAnyOrder', WHERE WHAT IT READS IS OF BULK AT MOST 1048576: true; the input reads as it did. -/
def stationAnyOrderUptoRow : OpenClaim := { program := "ytjpkcmlepjbamaa", sum := "a84af4977e3a7ea84dce1f09918e46ae33a90e46da2ecbdc6e5ebd9fa7526f83", func := "skywave/skywavelaw09.StationAnyOrder", spec := "stationAnyOrder", unfollowed := true, recurses := true, apart := false, narrowed := true }
def StationAnyOrderUptoSaid : Prop := stationAnyOrderUptoRow.holds Try.pinned (OpenSpec.upto stationAnyOrderSpec)

/-- 'skywavetop.TopStationNewest', WHERE WHAT IT READS IS OF BULK AT MOST 1048576: true; the input reads as it did. -/
def topStationNewestUptoRow : OpenClaim := { program := "ytjpkcmlepjbamaa", sum := "a84af4977e3a7ea84dce1f09918e46ae33a90e46da2ecbdc6e5ebd9fa7526f83", func := "skywave/skywavetop.TopStationNewest", spec := "topStationNewest", unfollowed := true, recurses := true, apart := false, narrowed := true }
def TopStationNewestUptoSaid : Prop := topStationNewestUptoRow.holds Try.pinned (OpenSpec.upto topStationNewestSpec)

end Rows
end Go.Proofs.Ytjpkcmlepjbamaa
