/-
  DERIVED. GIVEN WITH THE SEED: THE CARDS: each row of YthoemgiadadfcaaDoorRows.lean that lists a variable, with what it lists TIED to the program's text (the seventh form; the later family's looks); each row that meets fmt, with fmt's text TOLD by the authors' own Lean function (tested against real Go, not proved from fmt's source: count such statements apart). THE CARD IS WHAT COUNTS. Prove the row's statement (the work); the ties are given (YthoemgiadadfcaaDoorTie.lean); close each card by the builder's one call (the guide's Derived/Test/ToyasCard.lean, 'card_holds'). Laid BY PROGRAM, IN A SANDBOX (cutbox-door.mjs). By AI agents, Wed Nov 11 2026. No macro, syntax, notation, axiom, sorry.
-/
import Derived.Test.YthoemgiadadfcaaDoorRows
import GoSem.ClaimSeven
namespace Go.Proofs.YthoemgiadadfcaaDoor
namespace Rows

/-- THE TIED CARD OF 'belfrylaw25.RoadCounts'. -/
def roadCountsCard : Claim7 := { stood := { row := roadCountsRow, standIns := [], harness := (true, "a9f1e009ff0358b38a6fae2b82dc2ae617da3cce75c5b3da21026a1568e89736"), looks := false }, kinds := [], alts := [], laidByText := true, laidKinds := [.data, .pinned], laidTests := true, laidLooks := .later }
def RoadCountsCardSaid : Prop := Claim7.holds Tryd.pinned (.plain (OpenSpec.ofChange roadCountsSpec)) roadCountsCard

/-- THE TIED CARD OF 'belfrylaw25.RoadPlays'. -/
def roadPlaysCard : Claim7 := { stood := { row := roadPlaysRow, standIns := [], harness := (true, "a9f1e009ff0358b38a6fae2b82dc2ae617da3cce75c5b3da21026a1568e89736"), looks := false }, kinds := [], alts := [], laidByText := true, laidKinds := [.data, .pinned], laidTests := true, laidLooks := .later }
def RoadPlaysCardSaid : Prop := Claim7.holds Tryd.pinned (.plain (OpenSpec.ofChange roadPlaysSpec)) roadPlaysCard

/-- THE TIED CARD OF 'belfrylaw25.RoadParts'. -/
def roadPartsCard : Claim7 := { stood := { row := roadPartsRow, standIns := [], harness := (true, "a9f1e009ff0358b38a6fae2b82dc2ae617da3cce75c5b3da21026a1568e89736"), looks := false }, kinds := [], alts := [], laidByText := true, laidKinds := [.data, .pinned], laidTests := true, laidLooks := .later }
def RoadPartsCardSaid : Prop := Claim7.holds Tryd.pinned (.plain (OpenSpec.ofChange roadPartsSpec)) roadPartsCard

/-- THE TIED CARD OF 'belfrylaw25.RoadBack'. -/
def roadBackCard : Claim7 := { stood := { row := roadBackRow, standIns := [], harness := (true, "a9f1e009ff0358b38a6fae2b82dc2ae617da3cce75c5b3da21026a1568e89736"), looks := false }, kinds := [], alts := [], laidByText := true, laidKinds := [.data, .pinned], laidTests := true, laidLooks := .later }
def RoadBackCardSaid : Prop := Claim7.holds Tryd.pinned (.plain (OpenSpec.ofChange roadBackSpec)) roadBackCard

/-- THE TIED CARD OF 'belfrylaw25.RoadOnly'. -/
def roadOnlyCard : Claim7 := { stood := { row := roadOnlyRow, standIns := [], harness := (true, "a9f1e009ff0358b38a6fae2b82dc2ae617da3cce75c5b3da21026a1568e89736"), looks := false }, kinds := [], alts := [], laidByText := true, laidKinds := [.data, .pinned], laidTests := true, laidLooks := .later }
def RoadOnlyCardSaid : Prop := Claim7.holds Tryd.pinned (.plain (OpenSpec.ofChange roadOnlySpec)) roadOnlyCard

/-- THE SECOND FORM's CARD OF 'belfrylaw25.RoadCounts'. -/
def roadCountsUptoCard : Claim7 := { stood := { row := roadCountsUptoRow, standIns := [], harness := (true, "a9f1e009ff0358b38a6fae2b82dc2ae617da3cce75c5b3da21026a1568e89736"), looks := false }, kinds := [], alts := [], laidByText := true, laidKinds := [.data, .pinned], laidTests := true, laidLooks := .later }
def RoadCountsUptoCardSaid : Prop := Claim7.holds Tryd.pinned (.plain (OpenSpec.upto roadCountsSpec)) roadCountsUptoCard

/-- THE SECOND FORM's CARD OF 'belfrylaw25.RoadPlays'. -/
def roadPlaysUptoCard : Claim7 := { stood := { row := roadPlaysUptoRow, standIns := [], harness := (true, "a9f1e009ff0358b38a6fae2b82dc2ae617da3cce75c5b3da21026a1568e89736"), looks := false }, kinds := [], alts := [], laidByText := true, laidKinds := [.data, .pinned], laidTests := true, laidLooks := .later }
def RoadPlaysUptoCardSaid : Prop := Claim7.holds Tryd.pinned (.plain (OpenSpec.upto roadPlaysSpec)) roadPlaysUptoCard

/-- THE SECOND FORM's CARD OF 'belfrylaw25.RoadParts'. -/
def roadPartsUptoCard : Claim7 := { stood := { row := roadPartsUptoRow, standIns := [], harness := (true, "a9f1e009ff0358b38a6fae2b82dc2ae617da3cce75c5b3da21026a1568e89736"), looks := false }, kinds := [], alts := [], laidByText := true, laidKinds := [.data, .pinned], laidTests := true, laidLooks := .later }
def RoadPartsUptoCardSaid : Prop := Claim7.holds Tryd.pinned (.plain (OpenSpec.upto roadPartsSpec)) roadPartsUptoCard

/-- THE SECOND FORM's CARD OF 'belfrylaw25.RoadBack'. -/
def roadBackUptoCard : Claim7 := { stood := { row := roadBackUptoRow, standIns := [], harness := (true, "a9f1e009ff0358b38a6fae2b82dc2ae617da3cce75c5b3da21026a1568e89736"), looks := false }, kinds := [], alts := [], laidByText := true, laidKinds := [.data, .pinned], laidTests := true, laidLooks := .later }
def RoadBackUptoCardSaid : Prop := Claim7.holds Tryd.pinned (.plain (OpenSpec.upto roadBackSpec)) roadBackUptoCard

/-- THE SECOND FORM's CARD OF 'belfrylaw25.RoadOnly'. -/
def roadOnlyUptoCard : Claim7 := { stood := { row := roadOnlyUptoRow, standIns := [], harness := (true, "a9f1e009ff0358b38a6fae2b82dc2ae617da3cce75c5b3da21026a1568e89736"), looks := false }, kinds := [], alts := [], laidByText := true, laidKinds := [.data, .pinned], laidTests := true, laidLooks := .later }
def RoadOnlyUptoCardSaid : Prop := Claim7.holds Tryd.pinned (.plain (OpenSpec.upto roadOnlySpec)) roadOnlyUptoCard
end Rows
end Go.Proofs.YthoemgiadadfcaaDoor
