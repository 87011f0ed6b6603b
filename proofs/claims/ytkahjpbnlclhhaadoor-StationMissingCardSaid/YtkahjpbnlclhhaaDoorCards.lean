/-
  DERIVED. GIVEN WITH THE SEED: THE CARDS: each row of YtkahjpbnlclhhaaDoorRows.lean that lists a variable, with what it lists TIED to the program's text (the seventh form; the later family's looks); each row that meets fmt, with fmt's text TOLD by the authors' own Lean function (tested against real Go, not proved from fmt's source: count such statements apart). THE CARD IS WHAT COUNTS. Prove the row's statement (the work); the ties are given (YtkahjpbnlclhhaaDoorTie.lean); close each card by the builder's one call (the guide's Derived/Test/ToyasCard.lean, 'card_holds'). Laid BY PROGRAM, IN A SANDBOX (cutbox-door.mjs). By AI agents, Wed Nov 11 2026. No macro, syntax, notation, axiom, sorry.
-/
import Derived.Test.YtkahjpbnlclhhaaDoorRows
import GoSem.ClaimSeven
namespace Go.Proofs.YtkahjpbnlclhhaaDoor
namespace Rows

/-- THE TIED CARD OF 'skywavelaw09.StationMissing'. -/
def stationMissingCard : Claim7 := { stood := { row := stationMissingRow, standIns := [], harness := (true, "7b34a1b14f4c21cc34042bb4a0c39103a5e45a39a2794028cc43114fed9da8aa"), looks := true }, kinds := [], alts := [], laidByText := true, laidKinds := [.data, .data, .data], laidTests := true, laidLooks := .later }
def StationMissingCardSaid : Prop := Claim7.holds Tryd.pinned (.plain (OpenSpec.ofChange stationMissingSpec)) stationMissingCard

/-- THE TIED CARD OF 'skywavetop.TopStationExact'. -/
def topStationExactCard : Claim7 := { stood := { row := topStationExactRow, standIns := [], harness := (true, "7b34a1b14f4c21cc34042bb4a0c39103a5e45a39a2794028cc43114fed9da8aa"), looks := true }, kinds := [], alts := [], laidByText := true, laidKinds := [.data, .data, .data], laidTests := true, laidLooks := .later }
def TopStationExactCardSaid : Prop := Claim7.holds Tryd.pinned (.plain (OpenSpec.ofChange topStationExactSpec)) topStationExactCard

/-- THE TIED CARD OF 'skywavelaw09.StationStrings'. -/
def stationStringsCard : Claim7 := { stood := { row := stationStringsRow, standIns := [], harness := (true, "7b34a1b14f4c21cc34042bb4a0c39103a5e45a39a2794028cc43114fed9da8aa"), looks := true }, kinds := [], alts := [], laidByText := true, laidKinds := [.data, .data, .data, .sentinel, .sentinel], laidTests := true, laidLooks := .later }
def StationStringsCardSaid : Prop := Claim7.holds Tryd.pinned (.plain (OpenSpec.ofChange stationStringsSpec)) stationStringsCard

/-- THE SECOND FORM's CARD OF 'skywavelaw09.StationMissing'. -/
def stationMissingUptoCard : Claim7 := { stood := { row := stationMissingUptoRow, standIns := [], harness := (true, "7b34a1b14f4c21cc34042bb4a0c39103a5e45a39a2794028cc43114fed9da8aa"), looks := true }, kinds := [], alts := [], laidByText := true, laidKinds := [.data, .data, .data], laidTests := true, laidLooks := .later }
def StationMissingUptoCardSaid : Prop := Claim7.holds Tryd.pinned (.plain (OpenSpec.upto stationMissingSpec)) stationMissingUptoCard

/-- THE SECOND FORM's CARD OF 'skywavetop.TopStationExact'. -/
def topStationExactUptoCard : Claim7 := { stood := { row := topStationExactUptoRow, standIns := [], harness := (true, "7b34a1b14f4c21cc34042bb4a0c39103a5e45a39a2794028cc43114fed9da8aa"), looks := true }, kinds := [], alts := [], laidByText := true, laidKinds := [.data, .data, .data], laidTests := true, laidLooks := .later }
def TopStationExactUptoCardSaid : Prop := Claim7.holds Tryd.pinned (.plain (OpenSpec.upto topStationExactSpec)) topStationExactUptoCard

/-- THE SECOND FORM's CARD OF 'skywavelaw09.StationStrings'. -/
def stationStringsUptoCard : Claim7 := { stood := { row := stationStringsUptoRow, standIns := [], harness := (true, "7b34a1b14f4c21cc34042bb4a0c39103a5e45a39a2794028cc43114fed9da8aa"), looks := true }, kinds := [], alts := [], laidByText := true, laidKinds := [.data, .data, .data, .sentinel, .sentinel], laidTests := true, laidLooks := .later }
def StationStringsUptoCardSaid : Prop := Claim7.holds Tryd.pinned (.plain (OpenSpec.upto stationStringsSpec)) stationStringsUptoCard
end Rows
end Go.Proofs.YtkahjpbnlclhhaaDoor
