/-
  DERIVED. GIVEN WITH THE SEED: THE CARDS: each row of YtomdlmjibojcoaaDoorRows.lean that lists a variable, with what it lists TIED to the program's text (the seventh form; the later family's looks); each row that meets fmt, with fmt's text TOLD by the authors' own Lean function (tested against real Go, not proved from fmt's source: count such statements apart). THE CARD IS WHAT COUNTS. Prove the row's statement (the work); the ties are given (YtomdlmjibojcoaaDoorTie.lean); close each card by the builder's one call (the guide's Derived/Test/ToyasCard.lean, 'card_holds'). Laid BY PROGRAM, IN A SANDBOX (cutbox-door.mjs). By AI agents, Wed Nov 11 2026. No macro, syntax, notation, axiom, sorry.
-/
import Derived.Test.YtomdlmjibojcoaaDoorRows
import GoSem.ClaimSeven
namespace Go.Proofs.YtomdlmjibojcoaaDoor
namespace Rows

/-- THE TIED CARD OF 'turnoutlaw05.FrameSeals'. -/
def frameSealsCard : Claim7 := { stood := { row := frameSealsRow, standIns := [], harness := (true, "24672f2f675a04ddf3ee4ba9dab7a3c97c4cf9edddcd21f34ed63fef75e49af3"), looks := true }, kinds := [], alts := [], laidByText := true, laidKinds := [.data], laidTests := true, laidLooks := .later }
def FrameSealsCardSaid : Prop := Claim7.holds Tryd.pinned (.plain (OpenSpec.ofChange frameSealsSpec)) frameSealsCard

/-- THE TIED CARD OF 'turnoutlaw05.FrameOpens'. -/
def frameOpensCard : Claim7 := { stood := { row := frameOpensRow, standIns := [], harness := (true, "24672f2f675a04ddf3ee4ba9dab7a3c97c4cf9edddcd21f34ed63fef75e49af3"), looks := true }, kinds := [], alts := [], laidByText := true, laidKinds := [.data], laidTests := true, laidLooks := .later }
def FrameOpensCardSaid : Prop := Claim7.holds Tryd.pinned (.plain (OpenSpec.ofChange frameOpensSpec)) frameOpensCard

/-- THE TIED CARD OF 'turnoutlaw05.FrameBack'. -/
def frameBackCard : Claim7 := { stood := { row := frameBackRow, standIns := [], harness := (true, "24672f2f675a04ddf3ee4ba9dab7a3c97c4cf9edddcd21f34ed63fef75e49af3"), looks := true }, kinds := [], alts := [], laidByText := true, laidKinds := [.data], laidTests := true, laidLooks := .later }
def FrameBackCardSaid : Prop := Claim7.holds Tryd.pinned (.plain (OpenSpec.ofChange frameBackSpec)) frameBackCard

/-- THE TIED CARD OF 'turnoutlaw05.FrameAgain'. -/
def frameAgainCard : Claim7 := { stood := { row := frameAgainRow, standIns := [], harness := (true, "24672f2f675a04ddf3ee4ba9dab7a3c97c4cf9edddcd21f34ed63fef75e49af3"), looks := true }, kinds := [], alts := [], laidByText := true, laidKinds := [.data], laidTests := true, laidLooks := .later }
def FrameAgainCardSaid : Prop := Claim7.holds Tryd.pinned (.plain (OpenSpec.ofChange frameAgainSpec)) frameAgainCard

/-- THE TIED CARD OF 'turnoutlaw05.FrameTurned'. -/
def frameTurnedCard : Claim7 := { stood := { row := frameTurnedRow, standIns := [], harness := (true, "24672f2f675a04ddf3ee4ba9dab7a3c97c4cf9edddcd21f34ed63fef75e49af3"), looks := true }, kinds := [], alts := [], laidByText := true, laidKinds := [.data], laidTests := true, laidLooks := .later }
def FrameTurnedCardSaid : Prop := Claim7.holds Tryd.pinned (.plain (OpenSpec.ofChange frameTurnedSpec)) frameTurnedCard

/-- THE TIED CARD OF 'turnoutlaw05.FrameNil'. -/
def frameNilCard : Claim7 := { stood := { row := frameNilRow, standIns := [], harness := (true, "24672f2f675a04ddf3ee4ba9dab7a3c97c4cf9edddcd21f34ed63fef75e49af3"), looks := true }, kinds := [], alts := [], laidByText := true, laidKinds := [.data], laidTests := true, laidLooks := .later }
def FrameNilCardSaid : Prop := Claim7.holds Tryd.pinned (.plain (OpenSpec.ofChange frameNilSpec)) frameNilCard

/-- THE TIED CARD OF 'turnoutlaw05.FrameWhole'. -/
def frameWholeCard : Claim7 := { stood := { row := frameWholeRow, standIns := [], harness := (true, "24672f2f675a04ddf3ee4ba9dab7a3c97c4cf9edddcd21f34ed63fef75e49af3"), looks := true }, kinds := [], alts := [], laidByText := true, laidKinds := [.data], laidTests := true, laidLooks := .later }
def FrameWholeCardSaid : Prop := Claim7.holds Tryd.pinned (.plain (OpenSpec.ofChange frameWholeSpec)) frameWholeCard

/-- THE TIED CARD OF 'turnoutlaw05.FrameKeeps'. -/
def frameKeepsCard : Claim7 := { stood := { row := frameKeepsRow, standIns := [], harness := (true, "24672f2f675a04ddf3ee4ba9dab7a3c97c4cf9edddcd21f34ed63fef75e49af3"), looks := true }, kinds := [], alts := [], laidByText := true, laidKinds := [.data], laidTests := true, laidLooks := .later }
def FrameKeepsCardSaid : Prop := Claim7.holds Tryd.pinned (.plain (OpenSpec.ofChange frameKeepsSpec)) frameKeepsCard

/-- THE SECOND FORM's CARD OF 'turnoutlaw05.FrameSeals'. -/
def frameSealsUptoCard : Claim7 := { stood := { row := frameSealsUptoRow, standIns := [], harness := (true, "24672f2f675a04ddf3ee4ba9dab7a3c97c4cf9edddcd21f34ed63fef75e49af3"), looks := true }, kinds := [], alts := [], laidByText := true, laidKinds := [.data], laidTests := true, laidLooks := .later }
def FrameSealsUptoCardSaid : Prop := Claim7.holds Tryd.pinned (.plain (OpenSpec.upto frameSealsSpec)) frameSealsUptoCard

/-- THE SECOND FORM's CARD OF 'turnoutlaw05.FrameOpens'. -/
def frameOpensUptoCard : Claim7 := { stood := { row := frameOpensUptoRow, standIns := [], harness := (true, "24672f2f675a04ddf3ee4ba9dab7a3c97c4cf9edddcd21f34ed63fef75e49af3"), looks := true }, kinds := [], alts := [], laidByText := true, laidKinds := [.data], laidTests := true, laidLooks := .later }
def FrameOpensUptoCardSaid : Prop := Claim7.holds Tryd.pinned (.plain (OpenSpec.upto frameOpensSpec)) frameOpensUptoCard

/-- THE SECOND FORM's CARD OF 'turnoutlaw05.FrameBack'. -/
def frameBackUptoCard : Claim7 := { stood := { row := frameBackUptoRow, standIns := [], harness := (true, "24672f2f675a04ddf3ee4ba9dab7a3c97c4cf9edddcd21f34ed63fef75e49af3"), looks := true }, kinds := [], alts := [], laidByText := true, laidKinds := [.data], laidTests := true, laidLooks := .later }
def FrameBackUptoCardSaid : Prop := Claim7.holds Tryd.pinned (.plain (OpenSpec.upto frameBackSpec)) frameBackUptoCard

/-- THE SECOND FORM's CARD OF 'turnoutlaw05.FrameAgain'. -/
def frameAgainUptoCard : Claim7 := { stood := { row := frameAgainUptoRow, standIns := [], harness := (true, "24672f2f675a04ddf3ee4ba9dab7a3c97c4cf9edddcd21f34ed63fef75e49af3"), looks := true }, kinds := [], alts := [], laidByText := true, laidKinds := [.data], laidTests := true, laidLooks := .later }
def FrameAgainUptoCardSaid : Prop := Claim7.holds Tryd.pinned (.plain (OpenSpec.upto frameAgainSpec)) frameAgainUptoCard

/-- THE SECOND FORM's CARD OF 'turnoutlaw05.FrameTurned'. -/
def frameTurnedUptoCard : Claim7 := { stood := { row := frameTurnedUptoRow, standIns := [], harness := (true, "24672f2f675a04ddf3ee4ba9dab7a3c97c4cf9edddcd21f34ed63fef75e49af3"), looks := true }, kinds := [], alts := [], laidByText := true, laidKinds := [.data], laidTests := true, laidLooks := .later }
def FrameTurnedUptoCardSaid : Prop := Claim7.holds Tryd.pinned (.plain (OpenSpec.upto frameTurnedSpec)) frameTurnedUptoCard

/-- THE SECOND FORM's CARD OF 'turnoutlaw05.FrameNil'. -/
def frameNilUptoCard : Claim7 := { stood := { row := frameNilUptoRow, standIns := [], harness := (true, "24672f2f675a04ddf3ee4ba9dab7a3c97c4cf9edddcd21f34ed63fef75e49af3"), looks := true }, kinds := [], alts := [], laidByText := true, laidKinds := [.data], laidTests := true, laidLooks := .later }
def FrameNilUptoCardSaid : Prop := Claim7.holds Tryd.pinned (.plain (OpenSpec.upto frameNilSpec)) frameNilUptoCard

/-- THE SECOND FORM's CARD OF 'turnoutlaw05.FrameWhole'. -/
def frameWholeUptoCard : Claim7 := { stood := { row := frameWholeUptoRow, standIns := [], harness := (true, "24672f2f675a04ddf3ee4ba9dab7a3c97c4cf9edddcd21f34ed63fef75e49af3"), looks := true }, kinds := [], alts := [], laidByText := true, laidKinds := [.data], laidTests := true, laidLooks := .later }
def FrameWholeUptoCardSaid : Prop := Claim7.holds Tryd.pinned (.plain (OpenSpec.upto frameWholeSpec)) frameWholeUptoCard

/-- THE SECOND FORM's CARD OF 'turnoutlaw05.FrameKeeps'. -/
def frameKeepsUptoCard : Claim7 := { stood := { row := frameKeepsUptoRow, standIns := [], harness := (true, "24672f2f675a04ddf3ee4ba9dab7a3c97c4cf9edddcd21f34ed63fef75e49af3"), looks := true }, kinds := [], alts := [], laidByText := true, laidKinds := [.data], laidTests := true, laidLooks := .later }
def FrameKeepsUptoCardSaid : Prop := Claim7.holds Tryd.pinned (.plain (OpenSpec.upto frameKeepsSpec)) frameKeepsUptoCard
end Rows
end Go.Proofs.YtomdlmjibojcoaaDoor
