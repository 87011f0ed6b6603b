/-
  DERIVED. GIVEN WITH THE SEED: THE CARDS: each row of YtifppmbolpegpaaDoorRows.lean that lists a variable, with what it lists TIED to the program's text (the seventh form; the later family's looks); each row that meets fmt, with fmt's text TOLD by the authors' own Lean function (tested against real Go, not proved from fmt's source: count such statements apart). THE CARD IS WHAT COUNTS. Prove the row's statement (the work); the ties are given (YtifppmbolpegpaaDoorTie.lean); close each card by the builder's one call (the guide's Derived/Test/ToyasCard.lean, 'card_holds'). Laid BY PROGRAM, IN A SANDBOX (cutbox-door.mjs). By AI agents, Wed Nov 11 2026. No macro, syntax, notation, axiom, sorry.
-/
import Derived.Test.YtifppmbolpegpaaDoorRows
import GoSem.ClaimSeven
namespace Go.Proofs.YtifppmbolpegpaaDoor
namespace Rows

/-- THE TIED CARD OF 'skywavelaw09.StationChecks'. -/
def stationChecksCard : Claim7 := { stood := { row := stationChecksRow, standIns := [], harness := (true, "5b81ef1e5559cdc6f74c0afa3ac748a1fabeb34ec9c143716834b2c330f6d241"), looks := false }, kinds := [], alts := [], laidByText := true, laidKinds := [.data, .data, .data], laidTests := true, laidLooks := .later }
def StationChecksCardSaid : Prop := Claim7.holds Tryd.pinned (.plain (OpenSpec.ofChange stationChecksSpec)) stationChecksCard

/-- THE TIED CARD OF 'skywavelaw09.StationMissing'. -/
def stationMissingCard : Claim7 := { stood := { row := stationMissingRow, standIns := [], harness := (true, "5b81ef1e5559cdc6f74c0afa3ac748a1fabeb34ec9c143716834b2c330f6d241"), looks := false }, kinds := [], alts := [], laidByText := true, laidKinds := [.data, .data, .data], laidTests := true, laidLooks := .later }
def StationMissingCardSaid : Prop := Claim7.holds Tryd.pinned (.plain (OpenSpec.ofChange stationMissingSpec)) stationMissingCard

/-- THE TIED CARD OF 'skywavetop.TopStationExact'. -/
def topStationExactCard : Claim7 := { stood := { row := topStationExactRow, standIns := [], harness := (true, "5b81ef1e5559cdc6f74c0afa3ac748a1fabeb34ec9c143716834b2c330f6d241"), looks := false }, kinds := [], alts := [], laidByText := true, laidKinds := [.data, .data, .data], laidTests := true, laidLooks := .later }
def TopStationExactCardSaid : Prop := Claim7.holds Tryd.pinned (.plain (OpenSpec.ofChange topStationExactSpec)) topStationExactCard

/-- THE SECOND FORM's CARD OF 'skywavelaw09.StationChecks'. -/
def stationChecksUptoCard : Claim7 := { stood := { row := stationChecksUptoRow, standIns := [], harness := (true, "5b81ef1e5559cdc6f74c0afa3ac748a1fabeb34ec9c143716834b2c330f6d241"), looks := false }, kinds := [], alts := [], laidByText := true, laidKinds := [.data, .data, .data], laidTests := true, laidLooks := .later }
def StationChecksUptoCardSaid : Prop := Claim7.holds Tryd.pinned (.plain (OpenSpec.upto stationChecksSpec)) stationChecksUptoCard

/-- THE SECOND FORM's CARD OF 'skywavelaw09.StationMissing'. -/
def stationMissingUptoCard : Claim7 := { stood := { row := stationMissingUptoRow, standIns := [], harness := (true, "5b81ef1e5559cdc6f74c0afa3ac748a1fabeb34ec9c143716834b2c330f6d241"), looks := false }, kinds := [], alts := [], laidByText := true, laidKinds := [.data, .data, .data], laidTests := true, laidLooks := .later }
def StationMissingUptoCardSaid : Prop := Claim7.holds Tryd.pinned (.plain (OpenSpec.upto stationMissingSpec)) stationMissingUptoCard

/-- THE SECOND FORM's CARD OF 'skywavetop.TopStationExact'. -/
def topStationExactUptoCard : Claim7 := { stood := { row := topStationExactUptoRow, standIns := [], harness := (true, "5b81ef1e5559cdc6f74c0afa3ac748a1fabeb34ec9c143716834b2c330f6d241"), looks := false }, kinds := [], alts := [], laidByText := true, laidKinds := [.data, .data, .data], laidTests := true, laidLooks := .later }
def TopStationExactUptoCardSaid : Prop := Claim7.holds Tryd.pinned (.plain (OpenSpec.upto topStationExactSpec)) topStationExactUptoCard
end Rows
end Go.Proofs.YtifppmbolpegpaaDoor
