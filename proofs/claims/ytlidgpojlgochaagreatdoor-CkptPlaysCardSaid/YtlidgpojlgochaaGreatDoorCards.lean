/-
  DERIVED. GIVEN WITH THE SEED: THE CARDS: each row of YtlidgpojlgochaaGreatDoorRows.lean that lists a variable, with what it lists TIED to the program's text (the seventh form; the later family's looks); each row that meets fmt, with fmt's text TOLD by the authors' own Lean function (tested against real Go, not proved from fmt's source: count such statements apart). THE CARD IS WHAT COUNTS. Prove the row's statement (the work); the ties are given (YtlidgpojlgochaaGreatDoorTie.lean); close each card by the builder's one call (the guide's Derived/Test/ToyasCard.lean, 'card_holds'). Laid BY PROGRAM, IN A SANDBOX (cutbox-door.mjs). By AI agents, Wed Nov 11 2026. No macro, syntax, notation, axiom, sorry.
-/
import Derived.Test.YtlidgpojlgochaaGreatDoorRows
import GoSem.ClaimSeven
namespace Go.Proofs.YtlidgpojlgochaaGreatDoor
namespace Rows

/-- THE TIED CARD OF 'turnoutlaw20.CkptPlays'. -/
def ckptPlaysCard : Claim7 := { stood := { row := ckptPlaysRow, standIns := [], harness := (true, "bc8169337bc0db0edc764d2b5dbf270d8d44d19a5c022aaeec26c25e4ae251aa"), looks := true }, kinds := [], alts := [], laidByText := true, laidKinds := [.data], laidTests := true, laidLooks := .later }
def CkptPlaysCardSaid : Prop := Claim7.holds Tryz.pinned (.plain (OpenSpec.ofChange ckptPlaysSpec)) ckptPlaysCard

/-- THE SECOND FORM's CARD OF 'turnoutlaw20.CkptPlays'. -/
def ckptPlaysUptoCard : Claim7 := { stood := { row := ckptPlaysUptoRow, standIns := [], harness := (true, "bc8169337bc0db0edc764d2b5dbf270d8d44d19a5c022aaeec26c25e4ae251aa"), looks := true }, kinds := [], alts := [], laidByText := true, laidKinds := [.data], laidTests := true, laidLooks := .later }
def CkptPlaysUptoCardSaid : Prop := Claim7.holds Tryz.pinned (.plain (OpenSpec.upto ckptPlaysSpec)) ckptPlaysUptoCard
end Rows
end Go.Proofs.YtlidgpojlgochaaGreatDoor
