/-
  DERIVED. GIVEN WITH THE SEED: THE CARDS: each row of YtmjbccjelnhhiaaDoorRows.lean that lists a variable, with what it lists TIED to the program's text (the seventh form; the later family's looks); each row that meets fmt, with fmt's text TOLD by the authors' own Lean function (tested against real Go, not proved from fmt's source: count such statements apart). THE CARD IS WHAT COUNTS. Prove the row's statement (the work); the ties are given (YtmjbccjelnhhiaaDoorTie.lean); close each card by the builder's one call (the guide's Derived/Test/ToyasCard.lean, 'card_holds'). Laid BY PROGRAM, IN A SANDBOX (cutbox-door.mjs). By AI agents, Wed Nov 11 2026. No macro, syntax, notation, axiom, sorry.
-/
import Derived.Test.YtmjbccjelnhhiaaDoorRows
import GoSem.ClaimSeven
namespace Go.Proofs.YtmjbccjelnhhiaaDoor
namespace Rows

/-- THE TIED CARD OF 'turnoutlaw02.SumsSpreads'. -/
def sumsSpreadsCard : Claim7 := { stood := { row := sumsSpreadsRow, standIns := [], harness := (true, "2915e5c1de4c9633c343cd3f505e6e62a275647505a248c23f372af3231517db"), looks := false }, kinds := [], alts := [], laidByText := true, laidKinds := [.data], laidTests := true, laidLooks := .later }
def SumsSpreadsCardSaid : Prop := Claim7.holds Tryd.pinned (.plain (OpenSpec.ofChange sumsSpreadsSpec)) sumsSpreadsCard

/-- THE TIED CARD OF 'turnoutlaw02.SumsApart'. -/
def sumsApartCard : Claim7 := { stood := { row := sumsApartRow, standIns := [], harness := (true, "2915e5c1de4c9633c343cd3f505e6e62a275647505a248c23f372af3231517db"), looks := false }, kinds := [], alts := [], laidByText := true, laidKinds := [.data], laidTests := true, laidLooks := .later }
def SumsApartCardSaid : Prop := Claim7.holds Tryd.pinned (.plain (OpenSpec.ofChange sumsApartSpec)) sumsApartCard

/-- THE TIED CARD OF 'turnoutlaw02.SumsSlotted'. -/
def sumsSlottedCard : Claim7 := { stood := { row := sumsSlottedRow, standIns := [], harness := (true, "2915e5c1de4c9633c343cd3f505e6e62a275647505a248c23f372af3231517db"), looks := false }, kinds := [], alts := [], laidByText := true, laidKinds := [.data], laidTests := true, laidLooks := .later }
def SumsSlottedCardSaid : Prop := Claim7.holds Tryd.pinned (.plain (OpenSpec.ofChange sumsSlottedSpec)) sumsSlottedCard

/-- THE TIED CARD OF 'turnoutlaw02.SumsSums'. -/
def sumsSumsCard : Claim7 := { stood := { row := sumsSumsRow, standIns := [], harness := (true, "2915e5c1de4c9633c343cd3f505e6e62a275647505a248c23f372af3231517db"), looks := false }, kinds := [], alts := [], laidByText := true, laidKinds := [.data], laidTests := true, laidLooks := .later }
def SumsSumsCardSaid : Prop := Claim7.holds Tryd.pinned (.plain (OpenSpec.ofChange sumsSumsSpec)) sumsSumsCard

/-- THE TIED CARD OF 'turnoutlaw02.SumsOnes'. -/
def sumsOnesCard : Claim7 := { stood := { row := sumsOnesRow, standIns := [], harness := (true, "2915e5c1de4c9633c343cd3f505e6e62a275647505a248c23f372af3231517db"), looks := false }, kinds := [], alts := [], laidByText := true, laidKinds := [.data], laidTests := true, laidLooks := .later }
def SumsOnesCardSaid : Prop := Claim7.holds Tryd.pinned (.plain (OpenSpec.ofChange sumsOnesSpec)) sumsOnesCard

/-- THE TIED CARD OF 'turnoutlaw02.SumsPatched'. -/
def sumsPatchedCard : Claim7 := { stood := { row := sumsPatchedRow, standIns := [], harness := (true, "2915e5c1de4c9633c343cd3f505e6e62a275647505a248c23f372af3231517db"), looks := false }, kinds := [], alts := [], laidByText := true, laidKinds := [.data], laidTests := true, laidLooks := .later }
def SumsPatchedCardSaid : Prop := Claim7.holds Tryd.pinned (.plain (OpenSpec.ofChange sumsPatchedSpec)) sumsPatchedCard

/-- THE TIED CARD OF 'turnoutlaw02.SumsFours'. -/
def sumsFoursCard : Claim7 := { stood := { row := sumsFoursRow, standIns := [], harness := (true, "2915e5c1de4c9633c343cd3f505e6e62a275647505a248c23f372af3231517db"), looks := false }, kinds := [], alts := [], laidByText := true, laidKinds := [.data], laidTests := true, laidLooks := .later }
def SumsFoursCardSaid : Prop := Claim7.holds Tryd.pinned (.plain (OpenSpec.ofChange sumsFoursSpec)) sumsFoursCard

/-- THE TIED CARD OF 'turnoutlaw02.SumsJoins'. -/
def sumsJoinsCard : Claim7 := { stood := { row := sumsJoinsRow, standIns := [], harness := (true, "2915e5c1de4c9633c343cd3f505e6e62a275647505a248c23f372af3231517db"), looks := false }, kinds := [], alts := [], laidByText := true, laidKinds := [.data], laidTests := true, laidLooks := .later }
def SumsJoinsCardSaid : Prop := Claim7.holds Tryd.pinned (.plain (OpenSpec.ofChange sumsJoinsSpec)) sumsJoinsCard

/-- THE TIED CARD OF 'turnoutlaw02.SumsJoined'. -/
def sumsJoinedCard : Claim7 := { stood := { row := sumsJoinedRow, standIns := [], harness := (true, "2915e5c1de4c9633c343cd3f505e6e62a275647505a248c23f372af3231517db"), looks := false }, kinds := [], alts := [], laidByText := true, laidKinds := [.data], laidTests := true, laidLooks := .later }
def SumsJoinedCardSaid : Prop := Claim7.holds Tryd.pinned (.plain (OpenSpec.ofChange sumsJoinedSpec)) sumsJoinedCard

/-- THE SECOND FORM's CARD OF 'turnoutlaw02.SumsSpreads'. -/
def sumsSpreadsUptoCard : Claim7 := { stood := { row := sumsSpreadsUptoRow, standIns := [], harness := (true, "2915e5c1de4c9633c343cd3f505e6e62a275647505a248c23f372af3231517db"), looks := false }, kinds := [], alts := [], laidByText := true, laidKinds := [.data], laidTests := true, laidLooks := .later }
def SumsSpreadsUptoCardSaid : Prop := Claim7.holds Tryd.pinned (.plain (OpenSpec.upto sumsSpreadsSpec)) sumsSpreadsUptoCard

/-- THE SECOND FORM's CARD OF 'turnoutlaw02.SumsApart'. -/
def sumsApartUptoCard : Claim7 := { stood := { row := sumsApartUptoRow, standIns := [], harness := (true, "2915e5c1de4c9633c343cd3f505e6e62a275647505a248c23f372af3231517db"), looks := false }, kinds := [], alts := [], laidByText := true, laidKinds := [.data], laidTests := true, laidLooks := .later }
def SumsApartUptoCardSaid : Prop := Claim7.holds Tryd.pinned (.plain (OpenSpec.upto sumsApartSpec)) sumsApartUptoCard

/-- THE SECOND FORM's CARD OF 'turnoutlaw02.SumsSlotted'. -/
def sumsSlottedUptoCard : Claim7 := { stood := { row := sumsSlottedUptoRow, standIns := [], harness := (true, "2915e5c1de4c9633c343cd3f505e6e62a275647505a248c23f372af3231517db"), looks := false }, kinds := [], alts := [], laidByText := true, laidKinds := [.data], laidTests := true, laidLooks := .later }
def SumsSlottedUptoCardSaid : Prop := Claim7.holds Tryd.pinned (.plain (OpenSpec.upto sumsSlottedSpec)) sumsSlottedUptoCard

/-- THE SECOND FORM's CARD OF 'turnoutlaw02.SumsSums'. -/
def sumsSumsUptoCard : Claim7 := { stood := { row := sumsSumsUptoRow, standIns := [], harness := (true, "2915e5c1de4c9633c343cd3f505e6e62a275647505a248c23f372af3231517db"), looks := false }, kinds := [], alts := [], laidByText := true, laidKinds := [.data], laidTests := true, laidLooks := .later }
def SumsSumsUptoCardSaid : Prop := Claim7.holds Tryd.pinned (.plain (OpenSpec.upto sumsSumsSpec)) sumsSumsUptoCard

/-- THE SECOND FORM's CARD OF 'turnoutlaw02.SumsOnes'. -/
def sumsOnesUptoCard : Claim7 := { stood := { row := sumsOnesUptoRow, standIns := [], harness := (true, "2915e5c1de4c9633c343cd3f505e6e62a275647505a248c23f372af3231517db"), looks := false }, kinds := [], alts := [], laidByText := true, laidKinds := [.data], laidTests := true, laidLooks := .later }
def SumsOnesUptoCardSaid : Prop := Claim7.holds Tryd.pinned (.plain (OpenSpec.upto sumsOnesSpec)) sumsOnesUptoCard

/-- THE SECOND FORM's CARD OF 'turnoutlaw02.SumsPatched'. -/
def sumsPatchedUptoCard : Claim7 := { stood := { row := sumsPatchedUptoRow, standIns := [], harness := (true, "2915e5c1de4c9633c343cd3f505e6e62a275647505a248c23f372af3231517db"), looks := false }, kinds := [], alts := [], laidByText := true, laidKinds := [.data], laidTests := true, laidLooks := .later }
def SumsPatchedUptoCardSaid : Prop := Claim7.holds Tryd.pinned (.plain (OpenSpec.upto sumsPatchedSpec)) sumsPatchedUptoCard

/-- THE SECOND FORM's CARD OF 'turnoutlaw02.SumsFours'. -/
def sumsFoursUptoCard : Claim7 := { stood := { row := sumsFoursUptoRow, standIns := [], harness := (true, "2915e5c1de4c9633c343cd3f505e6e62a275647505a248c23f372af3231517db"), looks := false }, kinds := [], alts := [], laidByText := true, laidKinds := [.data], laidTests := true, laidLooks := .later }
def SumsFoursUptoCardSaid : Prop := Claim7.holds Tryd.pinned (.plain (OpenSpec.upto sumsFoursSpec)) sumsFoursUptoCard

/-- THE SECOND FORM's CARD OF 'turnoutlaw02.SumsJoins'. -/
def sumsJoinsUptoCard : Claim7 := { stood := { row := sumsJoinsUptoRow, standIns := [], harness := (true, "2915e5c1de4c9633c343cd3f505e6e62a275647505a248c23f372af3231517db"), looks := false }, kinds := [], alts := [], laidByText := true, laidKinds := [.data], laidTests := true, laidLooks := .later }
def SumsJoinsUptoCardSaid : Prop := Claim7.holds Tryd.pinned (.plain (OpenSpec.upto sumsJoinsSpec)) sumsJoinsUptoCard

/-- THE SECOND FORM's CARD OF 'turnoutlaw02.SumsJoined'. -/
def sumsJoinedUptoCard : Claim7 := { stood := { row := sumsJoinedUptoRow, standIns := [], harness := (true, "2915e5c1de4c9633c343cd3f505e6e62a275647505a248c23f372af3231517db"), looks := false }, kinds := [], alts := [], laidByText := true, laidKinds := [.data], laidTests := true, laidLooks := .later }
def SumsJoinedUptoCardSaid : Prop := Claim7.holds Tryd.pinned (.plain (OpenSpec.upto sumsJoinedSpec)) sumsJoinedUptoCard
end Rows
end Go.Proofs.YtmjbccjelnhhiaaDoor
