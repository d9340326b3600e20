/-
  DERIVED. GIVEN WITH THE SEED: THE CARDS: each row of YtcjgefhlkjdoaaaDoorRows.lean that lists a variable, with what it lists TIED to the program's text (the seventh form; the later family's looks); each row that meets fmt, with fmt's text TOLD by the authors' own Lean function (tested against real Go, not proved from fmt's source: count such statements apart). THE CARD IS WHAT COUNTS. Prove the row's statement (the work); the ties are given (YtcjgefhlkjdoaaaDoorTie.lean); close each card by the builder's one call (the guide's Derived/Test/ToyasCard.lean, 'card_holds'). Laid BY PROGRAM, IN A SANDBOX (cutbox-door.mjs). By AI agents, Wed Nov 11 2026. No macro, syntax, notation, axiom, sorry.
-/
import Derived.Test.YtcjgefhlkjdoaaaDoorRows
import GoSem.ClaimSeven
namespace Go.Proofs.YtcjgefhlkjdoaaaDoor
namespace Rows

/-- THE TIED CARD OF 'lockgatelaw02.CrcSums'. -/
def crcSumsCard : Claim7 := { stood := { row := crcSumsRow, standIns := [], harness := (true, "dba7c9d92794ffe361d739c2d20385fec17b3b6181c851aeeef89748222201ca"), looks := false }, kinds := [], alts := [], laidByText := true, laidKinds := [.data], laidTests := true, laidLooks := .later }
def CrcSumsCardSaid : Prop := Claim7.holds Tryd.pinned (.plain (OpenSpec.ofChange crcSumsSpec)) crcSumsCard

/-- THE TIED CARD OF 'lockgatelaw02.CrcParts'. -/
def crcPartsCard : Claim7 := { stood := { row := crcPartsRow, standIns := [], harness := (true, "dba7c9d92794ffe361d739c2d20385fec17b3b6181c851aeeef89748222201ca"), looks := false }, kinds := [], alts := [], laidByText := true, laidKinds := [.data], laidTests := true, laidLooks := .later }
def CrcPartsCardSaid : Prop := Claim7.holds Tryd.pinned (.plain (OpenSpec.ofChange crcPartsSpec)) crcPartsCard

/-- THE TIED CARD OF 'lockgatelaw02.CrcTurned'. -/
def crcTurnedCard : Claim7 := { stood := { row := crcTurnedRow, standIns := [], harness := (true, "dba7c9d92794ffe361d739c2d20385fec17b3b6181c851aeeef89748222201ca"), looks := false }, kinds := [], alts := [], laidByText := true, laidKinds := [.data], laidTests := true, laidLooks := .later }
def CrcTurnedCardSaid : Prop := Claim7.holds Tryd.pinned (.plain (OpenSpec.ofChange crcTurnedSpec)) crcTurnedCard

/-- THE TIED CARD OF 'lockgatelaw02.CrcSteps'. -/
def crcStepsCard : Claim7 := { stood := { row := crcStepsRow, standIns := [], harness := (true, "dba7c9d92794ffe361d739c2d20385fec17b3b6181c851aeeef89748222201ca"), looks := false }, kinds := [], alts := [], laidByText := true, laidKinds := [.data], laidTests := true, laidLooks := .later }
def CrcStepsCardSaid : Prop := Claim7.holds Tryd.pinned (.plain (OpenSpec.ofChange crcStepsSpec)) crcStepsCard

/-- THE TIED CARD OF 'lockgatelaw02.CrcThree'. -/
def crcThreeCard : Claim7 := { stood := { row := crcThreeRow, standIns := [], harness := (true, "dba7c9d92794ffe361d739c2d20385fec17b3b6181c851aeeef89748222201ca"), looks := false }, kinds := [], alts := [], laidByText := true, laidKinds := [.data], laidTests := true, laidLooks := .later }
def CrcThreeCardSaid : Prop := Claim7.holds Tryd.pinned (.plain (OpenSpec.ofChange crcThreeSpec)) crcThreeCard

/-- THE TIED CARD OF 'lockgatelaw02.CrcRows'. -/
def crcRowsCard : Claim7 := { stood := { row := crcRowsRow, standIns := [], harness := (true, "dba7c9d92794ffe361d739c2d20385fec17b3b6181c851aeeef89748222201ca"), looks := false }, kinds := [], alts := [], laidByText := true, laidKinds := [.data], laidTests := true, laidLooks := .later }
def CrcRowsCardSaid : Prop := Claim7.holds Tryd.pinned (.plain (OpenSpec.ofChange crcRowsSpec)) crcRowsCard

/-- THE TIED CARD OF 'lockgatelaw02.CrcRowed'. -/
def crcRowedCard : Claim7 := { stood := { row := crcRowedRow, standIns := [], harness := (true, "dba7c9d92794ffe361d739c2d20385fec17b3b6181c851aeeef89748222201ca"), looks := false }, kinds := [], alts := [], laidByText := true, laidKinds := [.data], laidTests := true, laidLooks := .later }
def CrcRowedCardSaid : Prop := Claim7.holds Tryd.pinned (.plain (OpenSpec.ofChange crcRowedSpec)) crcRowedCard

/-- THE SECOND FORM's CARD OF 'lockgatelaw02.CrcSums'. -/
def crcSumsUptoCard : Claim7 := { stood := { row := crcSumsUptoRow, standIns := [], harness := (true, "dba7c9d92794ffe361d739c2d20385fec17b3b6181c851aeeef89748222201ca"), looks := false }, kinds := [], alts := [], laidByText := true, laidKinds := [.data], laidTests := true, laidLooks := .later }
def CrcSumsUptoCardSaid : Prop := Claim7.holds Tryd.pinned (.plain (OpenSpec.upto crcSumsSpec)) crcSumsUptoCard

/-- THE SECOND FORM's CARD OF 'lockgatelaw02.CrcParts'. -/
def crcPartsUptoCard : Claim7 := { stood := { row := crcPartsUptoRow, standIns := [], harness := (true, "dba7c9d92794ffe361d739c2d20385fec17b3b6181c851aeeef89748222201ca"), looks := false }, kinds := [], alts := [], laidByText := true, laidKinds := [.data], laidTests := true, laidLooks := .later }
def CrcPartsUptoCardSaid : Prop := Claim7.holds Tryd.pinned (.plain (OpenSpec.upto crcPartsSpec)) crcPartsUptoCard

/-- THE SECOND FORM's CARD OF 'lockgatelaw02.CrcTurned'. -/
def crcTurnedUptoCard : Claim7 := { stood := { row := crcTurnedUptoRow, standIns := [], harness := (true, "dba7c9d92794ffe361d739c2d20385fec17b3b6181c851aeeef89748222201ca"), looks := false }, kinds := [], alts := [], laidByText := true, laidKinds := [.data], laidTests := true, laidLooks := .later }
def CrcTurnedUptoCardSaid : Prop := Claim7.holds Tryd.pinned (.plain (OpenSpec.upto crcTurnedSpec)) crcTurnedUptoCard

/-- THE SECOND FORM's CARD OF 'lockgatelaw02.CrcSteps'. -/
def crcStepsUptoCard : Claim7 := { stood := { row := crcStepsUptoRow, standIns := [], harness := (true, "dba7c9d92794ffe361d739c2d20385fec17b3b6181c851aeeef89748222201ca"), looks := false }, kinds := [], alts := [], laidByText := true, laidKinds := [.data], laidTests := true, laidLooks := .later }
def CrcStepsUptoCardSaid : Prop := Claim7.holds Tryd.pinned (.plain (OpenSpec.upto crcStepsSpec)) crcStepsUptoCard

/-- THE SECOND FORM's CARD OF 'lockgatelaw02.CrcThree'. -/
def crcThreeUptoCard : Claim7 := { stood := { row := crcThreeUptoRow, standIns := [], harness := (true, "dba7c9d92794ffe361d739c2d20385fec17b3b6181c851aeeef89748222201ca"), looks := false }, kinds := [], alts := [], laidByText := true, laidKinds := [.data], laidTests := true, laidLooks := .later }
def CrcThreeUptoCardSaid : Prop := Claim7.holds Tryd.pinned (.plain (OpenSpec.upto crcThreeSpec)) crcThreeUptoCard

/-- THE SECOND FORM's CARD OF 'lockgatelaw02.CrcRows'. -/
def crcRowsUptoCard : Claim7 := { stood := { row := crcRowsUptoRow, standIns := [], harness := (true, "dba7c9d92794ffe361d739c2d20385fec17b3b6181c851aeeef89748222201ca"), looks := false }, kinds := [], alts := [], laidByText := true, laidKinds := [.data], laidTests := true, laidLooks := .later }
def CrcRowsUptoCardSaid : Prop := Claim7.holds Tryd.pinned (.plain (OpenSpec.upto crcRowsSpec)) crcRowsUptoCard

/-- THE SECOND FORM's CARD OF 'lockgatelaw02.CrcRowed'. -/
def crcRowedUptoCard : Claim7 := { stood := { row := crcRowedUptoRow, standIns := [], harness := (true, "dba7c9d92794ffe361d739c2d20385fec17b3b6181c851aeeef89748222201ca"), looks := false }, kinds := [], alts := [], laidByText := true, laidKinds := [.data], laidTests := true, laidLooks := .later }
def CrcRowedUptoCardSaid : Prop := Claim7.holds Tryd.pinned (.plain (OpenSpec.upto crcRowedSpec)) crcRowedUptoCard
end Rows
end Go.Proofs.YtcjgefhlkjdoaaaDoor
