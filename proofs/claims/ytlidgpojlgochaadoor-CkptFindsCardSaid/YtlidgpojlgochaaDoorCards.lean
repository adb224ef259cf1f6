/-
  DERIVED. GIVEN WITH THE SEED: THE CARDS: each row of YtlidgpojlgochaaDoorRows.lean that lists a variable, with what it lists TIED to the program's text (the seventh form; the later family's looks); each row that meets fmt, with fmt's text TOLD by the authors' own Lean function (tested against real Go, not proved from fmt's source: count such statements apart). THE CARD IS WHAT COUNTS. Prove the row's statement (the work); the ties are given (YtlidgpojlgochaaDoorTie.lean); close each card by the builder's one call (the guide's Derived/Test/ToyasCard.lean, 'card_holds'). Laid BY PROGRAM, IN A SANDBOX (cutbox-door.mjs). By AI agents, Wed Nov 11 2026. No macro, syntax, notation, axiom, sorry.
-/
import Derived.Test.YtlidgpojlgochaaDoorRows
import GoSem.ClaimSeven
namespace Go.Proofs.YtlidgpojlgochaaDoor
namespace Rows

/-- THE TIED CARD OF 'turnoutlaw20.CkptLays'. -/
def ckptLaysCard : Claim7 := { stood := { row := ckptLaysRow, standIns := [], harness := (true, "adab309940afd381a12957f3137269e4adb7cc6af53ce9e23016bab7a15e29dd"), looks := true }, kinds := [], alts := [], laidByText := true, laidKinds := [.data], laidTests := true, laidLooks := .later }
def CkptLaysCardSaid : Prop := Claim7.holds Tryd.pinned (.plain (OpenSpec.ofChange ckptLaysSpec)) ckptLaysCard

/-- THE TIED CARD OF 'turnoutlaw20.CkptNil'. -/
def ckptNilCard : Claim7 := { stood := { row := ckptNilRow, standIns := [], harness := (true, "adab309940afd381a12957f3137269e4adb7cc6af53ce9e23016bab7a15e29dd"), looks := true }, kinds := [], alts := [], laidByText := true, laidKinds := [.data], laidTests := true, laidLooks := .later }
def CkptNilCardSaid : Prop := Claim7.holds Tryd.pinned (.plain (OpenSpec.ofChange ckptNilSpec)) ckptNilCard

/-- THE TIED CARD OF 'turnoutlaw20.CkptCrash'. -/
def ckptCrashCard : Claim7 := { stood := { row := ckptCrashRow, standIns := [], harness := (true, "adab309940afd381a12957f3137269e4adb7cc6af53ce9e23016bab7a15e29dd"), looks := true }, kinds := [], alts := [], laidByText := true, laidKinds := [.data], laidTests := true, laidLooks := .later }
def CkptCrashCardSaid : Prop := Claim7.holds Tryd.pinned (.plain (OpenSpec.ofChange ckptCrashSpec)) ckptCrashCard

/-- THE TIED CARD OF 'turnoutlaw20.CkptLong'. -/
def ckptLongCard : Claim7 := { stood := { row := ckptLongRow, standIns := [], harness := (true, "adab309940afd381a12957f3137269e4adb7cc6af53ce9e23016bab7a15e29dd"), looks := true }, kinds := [], alts := [], laidByText := true, laidKinds := [.data], laidTests := true, laidLooks := .later }
def CkptLongCardSaid : Prop := Claim7.holds Tryd.pinned (.plain (OpenSpec.ofChange ckptLongSpec)) ckptLongCard

/-- THE TIED CARD OF 'turnoutlaw20.CkptAny'. -/
def ckptAnyCard : Claim7 := { stood := { row := ckptAnyRow, standIns := [], harness := (true, "adab309940afd381a12957f3137269e4adb7cc6af53ce9e23016bab7a15e29dd"), looks := true }, kinds := [], alts := [], laidByText := true, laidKinds := [.data], laidTests := true, laidLooks := .later }
def CkptAnyCardSaid : Prop := Claim7.holds Tryd.pinned (.plain (OpenSpec.ofChange ckptAnySpec)) ckptAnyCard

/-- THE TIED CARD OF 'turnoutlaw20.CkptFinds'. -/
def ckptFindsCard : Claim7 := { stood := { row := ckptFindsRow, standIns := [], harness := (true, "adab309940afd381a12957f3137269e4adb7cc6af53ce9e23016bab7a15e29dd"), looks := true }, kinds := [], alts := [], laidByText := true, laidKinds := [.data], laidTests := true, laidLooks := .later }
def CkptFindsCardSaid : Prop := Claim7.holds Tryd.pinned (.plain (OpenSpec.ofChange ckptFindsSpec)) ckptFindsCard

/-- THE SECOND FORM's CARD OF 'turnoutlaw20.CkptLays'. -/
def ckptLaysUptoCard : Claim7 := { stood := { row := ckptLaysUptoRow, standIns := [], harness := (true, "adab309940afd381a12957f3137269e4adb7cc6af53ce9e23016bab7a15e29dd"), looks := true }, kinds := [], alts := [], laidByText := true, laidKinds := [.data], laidTests := true, laidLooks := .later }
def CkptLaysUptoCardSaid : Prop := Claim7.holds Tryd.pinned (.plain (OpenSpec.upto ckptLaysSpec)) ckptLaysUptoCard

/-- THE SECOND FORM's CARD OF 'turnoutlaw20.CkptNil'. -/
def ckptNilUptoCard : Claim7 := { stood := { row := ckptNilUptoRow, standIns := [], harness := (true, "adab309940afd381a12957f3137269e4adb7cc6af53ce9e23016bab7a15e29dd"), looks := true }, kinds := [], alts := [], laidByText := true, laidKinds := [.data], laidTests := true, laidLooks := .later }
def CkptNilUptoCardSaid : Prop := Claim7.holds Tryd.pinned (.plain (OpenSpec.upto ckptNilSpec)) ckptNilUptoCard

/-- THE SECOND FORM's CARD OF 'turnoutlaw20.CkptCrash'. -/
def ckptCrashUptoCard : Claim7 := { stood := { row := ckptCrashUptoRow, standIns := [], harness := (true, "adab309940afd381a12957f3137269e4adb7cc6af53ce9e23016bab7a15e29dd"), looks := true }, kinds := [], alts := [], laidByText := true, laidKinds := [.data], laidTests := true, laidLooks := .later }
def CkptCrashUptoCardSaid : Prop := Claim7.holds Tryd.pinned (.plain (OpenSpec.upto ckptCrashSpec)) ckptCrashUptoCard

/-- THE SECOND FORM's CARD OF 'turnoutlaw20.CkptLong'. -/
def ckptLongUptoCard : Claim7 := { stood := { row := ckptLongUptoRow, standIns := [], harness := (true, "adab309940afd381a12957f3137269e4adb7cc6af53ce9e23016bab7a15e29dd"), looks := true }, kinds := [], alts := [], laidByText := true, laidKinds := [.data], laidTests := true, laidLooks := .later }
def CkptLongUptoCardSaid : Prop := Claim7.holds Tryd.pinned (.plain (OpenSpec.upto ckptLongSpec)) ckptLongUptoCard

/-- THE SECOND FORM's CARD OF 'turnoutlaw20.CkptAny'. -/
def ckptAnyUptoCard : Claim7 := { stood := { row := ckptAnyUptoRow, standIns := [], harness := (true, "adab309940afd381a12957f3137269e4adb7cc6af53ce9e23016bab7a15e29dd"), looks := true }, kinds := [], alts := [], laidByText := true, laidKinds := [.data], laidTests := true, laidLooks := .later }
def CkptAnyUptoCardSaid : Prop := Claim7.holds Tryd.pinned (.plain (OpenSpec.upto ckptAnySpec)) ckptAnyUptoCard

/-- THE SECOND FORM's CARD OF 'turnoutlaw20.CkptFinds'. -/
def ckptFindsUptoCard : Claim7 := { stood := { row := ckptFindsUptoRow, standIns := [], harness := (true, "adab309940afd381a12957f3137269e4adb7cc6af53ce9e23016bab7a15e29dd"), looks := true }, kinds := [], alts := [], laidByText := true, laidKinds := [.data], laidTests := true, laidLooks := .later }
def CkptFindsUptoCardSaid : Prop := Claim7.holds Tryd.pinned (.plain (OpenSpec.upto ckptFindsSpec)) ckptFindsUptoCard
end Rows
end Go.Proofs.YtlidgpojlgochaaDoor
