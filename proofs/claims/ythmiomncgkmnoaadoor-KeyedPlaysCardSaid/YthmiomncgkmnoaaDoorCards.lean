/-
  DERIVED. GIVEN WITH THE SEED: THE CARDS: each row of YthmiomncgkmnoaaDoorRows.lean that lists a variable, with what it lists TIED to the program's text (the seventh form; the later family's looks); each row that meets fmt, with fmt's text TOLD by the authors' own Lean function (tested against real Go, not proved from fmt's source: count such statements apart). THE CARD IS WHAT COUNTS. Prove the row's statement (the work); the ties are given (YthmiomncgkmnoaaDoorTie.lean); close each card by the builder's one call (the guide's Derived/Test/ToyasCard.lean, 'card_holds'). Laid BY PROGRAM, IN A SANDBOX (cutbox-door.mjs). By AI agents, Wed Nov 11 2026. No macro, syntax, notation, axiom, sorry.
-/
import Derived.Test.YthmiomncgkmnoaaDoorRows
import GoSem.ClaimSeven
namespace Go.Proofs.YthmiomncgkmnoaaDoor
namespace Rows

/-- THE TIED CARD OF 'belfrylaw01.SipPlays'. -/
def sipPlaysCard : Claim7 := { stood := { row := sipPlaysRow, standIns := [], harness := (true, "028fca1e4a581519403cda4bac231a8ac34a4bfcf481a7f507a79f4cf251cef2"), looks := false }, kinds := [], alts := [], laidByText := true, laidKinds := [.data], laidTests := true, laidLooks := .later }
def SipPlaysCardSaid : Prop := Claim7.holds Tryd.pinned (.plain (OpenSpec.ofChange sipPlaysSpec)) sipPlaysCard

/-- THE TIED CARD OF 'belfrylaw01.SipTurns'. -/
def sipTurnsCard : Claim7 := { stood := { row := sipTurnsRow, standIns := [], harness := (true, "028fca1e4a581519403cda4bac231a8ac34a4bfcf481a7f507a79f4cf251cef2"), looks := false }, kinds := [], alts := [], laidByText := true, laidKinds := [.data], laidTests := true, laidLooks := .later }
def SipTurnsCardSaid : Prop := Claim7.holds Tryd.pinned (.plain (OpenSpec.ofChange sipTurnsSpec)) sipTurnsCard

/-- THE TIED CARD OF 'belfrylaw01.SipWords'. -/
def sipWordsCard : Claim7 := { stood := { row := sipWordsRow, standIns := [], harness := (true, "028fca1e4a581519403cda4bac231a8ac34a4bfcf481a7f507a79f4cf251cef2"), looks := false }, kinds := [], alts := [], laidByText := true, laidKinds := [.data], laidTests := true, laidLooks := .later }
def SipWordsCardSaid : Prop := Claim7.holds Tryd.pinned (.plain (OpenSpec.ofChange sipWordsSpec)) sipWordsCard

/-- THE TIED CARD OF 'belfrylaw01.SipEnds'. -/
def sipEndsCard : Claim7 := { stood := { row := sipEndsRow, standIns := [], harness := (true, "028fca1e4a581519403cda4bac231a8ac34a4bfcf481a7f507a79f4cf251cef2"), looks := false }, kinds := [], alts := [], laidByText := true, laidKinds := [.data], laidTests := true, laidLooks := .later }
def SipEndsCardSaid : Prop := Claim7.holds Tryd.pinned (.plain (OpenSpec.ofChange sipEndsSpec)) sipEndsCard

/-- THE TIED CARD OF 'belfrylaw01.SipRounds'. -/
def sipRoundsCard : Claim7 := { stood := { row := sipRoundsRow, standIns := [], harness := (true, "028fca1e4a581519403cda4bac231a8ac34a4bfcf481a7f507a79f4cf251cef2"), looks := false }, kinds := [], alts := [], laidByText := true, laidKinds := [.data], laidTests := true, laidLooks := .later }
def SipRoundsCardSaid : Prop := Claim7.holds Tryd.pinned (.plain (OpenSpec.ofChange sipRoundsSpec)) sipRoundsCard

/-- THE TIED CARD OF 'belfrylaw01.SipKeys'. -/
def sipKeysCard : Claim7 := { stood := { row := sipKeysRow, standIns := [], harness := (true, "028fca1e4a581519403cda4bac231a8ac34a4bfcf481a7f507a79f4cf251cef2"), looks := false }, kinds := [], alts := [], laidByText := true, laidKinds := [.data], laidTests := true, laidLooks := .later }
def SipKeysCardSaid : Prop := Claim7.holds Tryd.pinned (.plain (OpenSpec.ofChange sipKeysSpec)) sipKeysCard

/-- THE TIED CARD OF 'belfrylaw02.KeyedOrders'. -/
def keyedOrdersCard : Claim7 := { stood := { row := keyedOrdersRow, standIns := [], harness := (true, "028fca1e4a581519403cda4bac231a8ac34a4bfcf481a7f507a79f4cf251cef2"), looks := false }, kinds := [], alts := [], laidByText := true, laidKinds := [.data], laidTests := true, laidLooks := .later }
def KeyedOrdersCardSaid : Prop := Claim7.holds Tryd.pinned (.plain (OpenSpec.ofChange keyedOrdersSpec)) keyedOrdersCard

/-- THE TIED CARD OF 'belfrylaw02.KeyedBands'. -/
def keyedBandsCard : Claim7 := { stood := { row := keyedBandsRow, standIns := [], harness := (true, "028fca1e4a581519403cda4bac231a8ac34a4bfcf481a7f507a79f4cf251cef2"), looks := false }, kinds := [], alts := [], laidByText := true, laidKinds := [.data], laidTests := true, laidLooks := .later }
def KeyedBandsCardSaid : Prop := Claim7.holds Tryd.pinned (.plain (OpenSpec.ofChange keyedBandsSpec)) keyedBandsCard

/-- THE TIED CARD OF 'belfrylaw02.KeyedSubsets'. -/
def keyedSubsetsCard : Claim7 := { stood := { row := keyedSubsetsRow, standIns := [], harness := (true, "028fca1e4a581519403cda4bac231a8ac34a4bfcf481a7f507a79f4cf251cef2"), looks := false }, kinds := [], alts := [], laidByText := true, laidKinds := [.data], laidTests := true, laidLooks := .later }
def KeyedSubsetsCardSaid : Prop := Claim7.holds Tryd.pinned (.plain (OpenSpec.ofChange keyedSubsetsSpec)) keyedSubsetsCard

/-- THE TIED CARD OF 'belfrylaw02.KeyedRanges'. -/
def keyedRangesCard : Claim7 := { stood := { row := keyedRangesRow, standIns := [], harness := (true, "028fca1e4a581519403cda4bac231a8ac34a4bfcf481a7f507a79f4cf251cef2"), looks := false }, kinds := [], alts := [], laidByText := true, laidKinds := [.data], laidTests := true, laidLooks := .later }
def KeyedRangesCardSaid : Prop := Claim7.holds Tryd.pinned (.plain (OpenSpec.ofChange keyedRangesSpec)) keyedRangesCard

/-- THE TIED CARD OF 'belfrylaw02.KeyedPeriod'. -/
def keyedPeriodCard : Claim7 := { stood := { row := keyedPeriodRow, standIns := [], harness := (true, "028fca1e4a581519403cda4bac231a8ac34a4bfcf481a7f507a79f4cf251cef2"), looks := false }, kinds := [], alts := [], laidByText := true, laidKinds := [.data], laidTests := true, laidLooks := .later }
def KeyedPeriodCardSaid : Prop := Claim7.holds Tryd.pinned (.plain (OpenSpec.ofChange keyedPeriodSpec)) keyedPeriodCard

/-- THE TIED CARD OF 'belfrylaw02.KeyedPlays'. -/
def keyedPlaysCard : Claim7 := { stood := { row := keyedPlaysRow, standIns := [], harness := (true, "028fca1e4a581519403cda4bac231a8ac34a4bfcf481a7f507a79f4cf251cef2"), looks := false }, kinds := [], alts := [], laidByText := true, laidKinds := [.data], laidTests := true, laidLooks := .later }
def KeyedPlaysCardSaid : Prop := Claim7.holds Tryd.pinned (.plain (OpenSpec.ofChange keyedPlaysSpec)) keyedPlaysCard

/-- THE SECOND FORM's CARD OF 'belfrylaw01.SipPlays'. -/
def sipPlaysUptoCard : Claim7 := { stood := { row := sipPlaysUptoRow, standIns := [], harness := (true, "028fca1e4a581519403cda4bac231a8ac34a4bfcf481a7f507a79f4cf251cef2"), looks := false }, kinds := [], alts := [], laidByText := true, laidKinds := [.data], laidTests := true, laidLooks := .later }
def SipPlaysUptoCardSaid : Prop := Claim7.holds Tryd.pinned (.plain (OpenSpec.upto sipPlaysSpec)) sipPlaysUptoCard

/-- THE SECOND FORM's CARD OF 'belfrylaw01.SipTurns'. -/
def sipTurnsUptoCard : Claim7 := { stood := { row := sipTurnsUptoRow, standIns := [], harness := (true, "028fca1e4a581519403cda4bac231a8ac34a4bfcf481a7f507a79f4cf251cef2"), looks := false }, kinds := [], alts := [], laidByText := true, laidKinds := [.data], laidTests := true, laidLooks := .later }
def SipTurnsUptoCardSaid : Prop := Claim7.holds Tryd.pinned (.plain (OpenSpec.upto sipTurnsSpec)) sipTurnsUptoCard

/-- THE SECOND FORM's CARD OF 'belfrylaw01.SipWords'. -/
def sipWordsUptoCard : Claim7 := { stood := { row := sipWordsUptoRow, standIns := [], harness := (true, "028fca1e4a581519403cda4bac231a8ac34a4bfcf481a7f507a79f4cf251cef2"), looks := false }, kinds := [], alts := [], laidByText := true, laidKinds := [.data], laidTests := true, laidLooks := .later }
def SipWordsUptoCardSaid : Prop := Claim7.holds Tryd.pinned (.plain (OpenSpec.upto sipWordsSpec)) sipWordsUptoCard

/-- THE SECOND FORM's CARD OF 'belfrylaw01.SipEnds'. -/
def sipEndsUptoCard : Claim7 := { stood := { row := sipEndsUptoRow, standIns := [], harness := (true, "028fca1e4a581519403cda4bac231a8ac34a4bfcf481a7f507a79f4cf251cef2"), looks := false }, kinds := [], alts := [], laidByText := true, laidKinds := [.data], laidTests := true, laidLooks := .later }
def SipEndsUptoCardSaid : Prop := Claim7.holds Tryd.pinned (.plain (OpenSpec.upto sipEndsSpec)) sipEndsUptoCard

/-- THE SECOND FORM's CARD OF 'belfrylaw01.SipRounds'. -/
def sipRoundsUptoCard : Claim7 := { stood := { row := sipRoundsUptoRow, standIns := [], harness := (true, "028fca1e4a581519403cda4bac231a8ac34a4bfcf481a7f507a79f4cf251cef2"), looks := false }, kinds := [], alts := [], laidByText := true, laidKinds := [.data], laidTests := true, laidLooks := .later }
def SipRoundsUptoCardSaid : Prop := Claim7.holds Tryd.pinned (.plain (OpenSpec.upto sipRoundsSpec)) sipRoundsUptoCard

/-- THE SECOND FORM's CARD OF 'belfrylaw01.SipKeys'. -/
def sipKeysUptoCard : Claim7 := { stood := { row := sipKeysUptoRow, standIns := [], harness := (true, "028fca1e4a581519403cda4bac231a8ac34a4bfcf481a7f507a79f4cf251cef2"), looks := false }, kinds := [], alts := [], laidByText := true, laidKinds := [.data], laidTests := true, laidLooks := .later }
def SipKeysUptoCardSaid : Prop := Claim7.holds Tryd.pinned (.plain (OpenSpec.upto sipKeysSpec)) sipKeysUptoCard

/-- THE SECOND FORM's CARD OF 'belfrylaw02.KeyedOrders'. -/
def keyedOrdersUptoCard : Claim7 := { stood := { row := keyedOrdersUptoRow, standIns := [], harness := (true, "028fca1e4a581519403cda4bac231a8ac34a4bfcf481a7f507a79f4cf251cef2"), looks := false }, kinds := [], alts := [], laidByText := true, laidKinds := [.data], laidTests := true, laidLooks := .later }
def KeyedOrdersUptoCardSaid : Prop := Claim7.holds Tryd.pinned (.plain (OpenSpec.upto keyedOrdersSpec)) keyedOrdersUptoCard

/-- THE SECOND FORM's CARD OF 'belfrylaw02.KeyedBands'. -/
def keyedBandsUptoCard : Claim7 := { stood := { row := keyedBandsUptoRow, standIns := [], harness := (true, "028fca1e4a581519403cda4bac231a8ac34a4bfcf481a7f507a79f4cf251cef2"), looks := false }, kinds := [], alts := [], laidByText := true, laidKinds := [.data], laidTests := true, laidLooks := .later }
def KeyedBandsUptoCardSaid : Prop := Claim7.holds Tryd.pinned (.plain (OpenSpec.upto keyedBandsSpec)) keyedBandsUptoCard

/-- THE SECOND FORM's CARD OF 'belfrylaw02.KeyedSubsets'. -/
def keyedSubsetsUptoCard : Claim7 := { stood := { row := keyedSubsetsUptoRow, standIns := [], harness := (true, "028fca1e4a581519403cda4bac231a8ac34a4bfcf481a7f507a79f4cf251cef2"), looks := false }, kinds := [], alts := [], laidByText := true, laidKinds := [.data], laidTests := true, laidLooks := .later }
def KeyedSubsetsUptoCardSaid : Prop := Claim7.holds Tryd.pinned (.plain (OpenSpec.upto keyedSubsetsSpec)) keyedSubsetsUptoCard

/-- THE SECOND FORM's CARD OF 'belfrylaw02.KeyedRanges'. -/
def keyedRangesUptoCard : Claim7 := { stood := { row := keyedRangesUptoRow, standIns := [], harness := (true, "028fca1e4a581519403cda4bac231a8ac34a4bfcf481a7f507a79f4cf251cef2"), looks := false }, kinds := [], alts := [], laidByText := true, laidKinds := [.data], laidTests := true, laidLooks := .later }
def KeyedRangesUptoCardSaid : Prop := Claim7.holds Tryd.pinned (.plain (OpenSpec.upto keyedRangesSpec)) keyedRangesUptoCard

/-- THE SECOND FORM's CARD OF 'belfrylaw02.KeyedPeriod'. -/
def keyedPeriodUptoCard : Claim7 := { stood := { row := keyedPeriodUptoRow, standIns := [], harness := (true, "028fca1e4a581519403cda4bac231a8ac34a4bfcf481a7f507a79f4cf251cef2"), looks := false }, kinds := [], alts := [], laidByText := true, laidKinds := [.data], laidTests := true, laidLooks := .later }
def KeyedPeriodUptoCardSaid : Prop := Claim7.holds Tryd.pinned (.plain (OpenSpec.upto keyedPeriodSpec)) keyedPeriodUptoCard

/-- THE SECOND FORM's CARD OF 'belfrylaw02.KeyedPlays'. -/
def keyedPlaysUptoCard : Claim7 := { stood := { row := keyedPlaysUptoRow, standIns := [], harness := (true, "028fca1e4a581519403cda4bac231a8ac34a4bfcf481a7f507a79f4cf251cef2"), looks := false }, kinds := [], alts := [], laidByText := true, laidKinds := [.data], laidTests := true, laidLooks := .later }
def KeyedPlaysUptoCardSaid : Prop := Claim7.holds Tryd.pinned (.plain (OpenSpec.upto keyedPlaysSpec)) keyedPlaysUptoCard
end Rows
end Go.Proofs.YthmiomncgkmnoaaDoor
