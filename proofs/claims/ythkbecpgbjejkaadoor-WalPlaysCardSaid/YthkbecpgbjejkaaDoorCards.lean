/-
  DERIVED. GIVEN WITH THE SEED: THE CARDS: each row of YthkbecpgbjejkaaDoorRows.lean that lists a variable, with what it lists TIED to the program's text (the seventh form; the later family's looks); each row that meets fmt, with fmt's text TOLD by the authors' own Lean function (tested against real Go, not proved from fmt's source: count such statements apart). THE CARD IS WHAT COUNTS. Prove the row's statement (the work); the ties are given (YthkbecpgbjejkaaDoorTie.lean); close each card by the builder's one call (the guide's Derived/Test/ToyasCard.lean, 'card_holds'). Laid BY PROGRAM, IN A SANDBOX (cutbox-door.mjs). By AI agents, Wed Nov 11 2026. No macro, syntax, notation, axiom, sorry.
-/
import Derived.Test.YthkbecpgbjejkaaDoorRows
import GoSem.ClaimSeven
namespace Go.Proofs.YthkbecpgbjejkaaDoor
namespace Rows

/-- THE TIED CARD OF 'turnoutlaw19.WalNil'. -/
def walNilCard : Claim7 := { stood := { row := walNilRow, standIns := [], harness := (true, "12a480ad70f16c79d7ffb438a381495b6671b855b98ec4268ea5c924531f5945"), looks := true }, kinds := [], alts := [], laidByText := true, laidKinds := [.data, .sentinel, .sentinel], laidTests := true, laidLooks := .later }
def WalNilCardSaid : Prop := Claim7.holds Tryd.pinned (.plain (OpenSpec.ofChange walNilSpec)) walNilCard

/-- THE TIED CARD OF 'turnoutlaw19.WalFull'. -/
def walFullCard : Claim7 := { stood := { row := walFullRow, standIns := [], harness := (true, "12a480ad70f16c79d7ffb438a381495b6671b855b98ec4268ea5c924531f5945"), looks := true }, kinds := [], alts := [], laidByText := true, laidKinds := [.data, .sentinel, .sentinel], laidTests := true, laidLooks := .later }
def WalFullCardSaid : Prop := Claim7.holds Tryd.pinned (.plain (OpenSpec.ofChange walFullSpec)) walFullCard

/-- THE TIED CARD OF 'turnoutlaw19.WalOnce'. -/
def walOnceCard : Claim7 := { stood := { row := walOnceRow, standIns := [], harness := (true, "12a480ad70f16c79d7ffb438a381495b6671b855b98ec4268ea5c924531f5945"), looks := true }, kinds := [], alts := [], laidByText := true, laidKinds := [.data, .sentinel, .sentinel], laidTests := true, laidLooks := .later }
def WalOnceCardSaid : Prop := Claim7.holds Tryd.pinned (.plain (OpenSpec.ofChange walOnceSpec)) walOnceCard

/-- THE TIED CARD OF 'turnoutlaw19.WalScans'. -/
def walScansCard : Claim7 := { stood := { row := walScansRow, standIns := [], harness := (true, "12a480ad70f16c79d7ffb438a381495b6671b855b98ec4268ea5c924531f5945"), looks := true }, kinds := [], alts := [], laidByText := true, laidKinds := [.data, .sentinel, .sentinel], laidTests := true, laidLooks := .later }
def WalScansCardSaid : Prop := Claim7.holds Tryd.pinned (.plain (OpenSpec.ofChange walScansSpec)) walScansCard

/-- THE TIED CARD OF 'turnoutlaw19.WalBack'. -/
def walBackCard : Claim7 := { stood := { row := walBackRow, standIns := [], harness := (true, "12a480ad70f16c79d7ffb438a381495b6671b855b98ec4268ea5c924531f5945"), looks := true }, kinds := [], alts := [], laidByText := true, laidKinds := [.data, .sentinel, .sentinel], laidTests := true, laidLooks := .later }
def WalBackCardSaid : Prop := Claim7.holds Tryd.pinned (.plain (OpenSpec.ofChange walBackSpec)) walBackCard

/-- THE TIED CARD OF 'turnoutlaw19.WalCrash'. -/
def walCrashCard : Claim7 := { stood := { row := walCrashRow, standIns := [], harness := (true, "12a480ad70f16c79d7ffb438a381495b6671b855b98ec4268ea5c924531f5945"), looks := true }, kinds := [], alts := [], laidByText := true, laidKinds := [.data, .sentinel, .sentinel], laidTests := true, laidLooks := .later }
def WalCrashCardSaid : Prop := Claim7.holds Tryd.pinned (.plain (OpenSpec.ofChange walCrashSpec)) walCrashCard

/-- THE TIED CARD OF 'turnoutlaw19.WalPlays'. -/
def walPlaysCard : Claim7 := { stood := { row := walPlaysRow, standIns := [], harness := (true, "12a480ad70f16c79d7ffb438a381495b6671b855b98ec4268ea5c924531f5945"), looks := true }, kinds := [], alts := [], laidByText := true, laidKinds := [.data, .sentinel, .sentinel], laidTests := true, laidLooks := .later }
def WalPlaysCardSaid : Prop := Claim7.holds Tryd.pinned (.plain (OpenSpec.ofChange walPlaysSpec)) walPlaysCard

/-- THE SECOND FORM's CARD OF 'turnoutlaw19.WalNil'. -/
def walNilUptoCard : Claim7 := { stood := { row := walNilUptoRow, standIns := [], harness := (true, "12a480ad70f16c79d7ffb438a381495b6671b855b98ec4268ea5c924531f5945"), looks := true }, kinds := [], alts := [], laidByText := true, laidKinds := [.data, .sentinel, .sentinel], laidTests := true, laidLooks := .later }
def WalNilUptoCardSaid : Prop := Claim7.holds Tryd.pinned (.plain (OpenSpec.upto walNilSpec)) walNilUptoCard

/-- THE SECOND FORM's CARD OF 'turnoutlaw19.WalFull'. -/
def walFullUptoCard : Claim7 := { stood := { row := walFullUptoRow, standIns := [], harness := (true, "12a480ad70f16c79d7ffb438a381495b6671b855b98ec4268ea5c924531f5945"), looks := true }, kinds := [], alts := [], laidByText := true, laidKinds := [.data, .sentinel, .sentinel], laidTests := true, laidLooks := .later }
def WalFullUptoCardSaid : Prop := Claim7.holds Tryd.pinned (.plain (OpenSpec.upto walFullSpec)) walFullUptoCard

/-- THE SECOND FORM's CARD OF 'turnoutlaw19.WalOnce'. -/
def walOnceUptoCard : Claim7 := { stood := { row := walOnceUptoRow, standIns := [], harness := (true, "12a480ad70f16c79d7ffb438a381495b6671b855b98ec4268ea5c924531f5945"), looks := true }, kinds := [], alts := [], laidByText := true, laidKinds := [.data, .sentinel, .sentinel], laidTests := true, laidLooks := .later }
def WalOnceUptoCardSaid : Prop := Claim7.holds Tryd.pinned (.plain (OpenSpec.upto walOnceSpec)) walOnceUptoCard

/-- THE SECOND FORM's CARD OF 'turnoutlaw19.WalScans'. -/
def walScansUptoCard : Claim7 := { stood := { row := walScansUptoRow, standIns := [], harness := (true, "12a480ad70f16c79d7ffb438a381495b6671b855b98ec4268ea5c924531f5945"), looks := true }, kinds := [], alts := [], laidByText := true, laidKinds := [.data, .sentinel, .sentinel], laidTests := true, laidLooks := .later }
def WalScansUptoCardSaid : Prop := Claim7.holds Tryd.pinned (.plain (OpenSpec.upto walScansSpec)) walScansUptoCard

/-- THE SECOND FORM's CARD OF 'turnoutlaw19.WalBack'. -/
def walBackUptoCard : Claim7 := { stood := { row := walBackUptoRow, standIns := [], harness := (true, "12a480ad70f16c79d7ffb438a381495b6671b855b98ec4268ea5c924531f5945"), looks := true }, kinds := [], alts := [], laidByText := true, laidKinds := [.data, .sentinel, .sentinel], laidTests := true, laidLooks := .later }
def WalBackUptoCardSaid : Prop := Claim7.holds Tryd.pinned (.plain (OpenSpec.upto walBackSpec)) walBackUptoCard

/-- THE SECOND FORM's CARD OF 'turnoutlaw19.WalCrash'. -/
def walCrashUptoCard : Claim7 := { stood := { row := walCrashUptoRow, standIns := [], harness := (true, "12a480ad70f16c79d7ffb438a381495b6671b855b98ec4268ea5c924531f5945"), looks := true }, kinds := [], alts := [], laidByText := true, laidKinds := [.data, .sentinel, .sentinel], laidTests := true, laidLooks := .later }
def WalCrashUptoCardSaid : Prop := Claim7.holds Tryd.pinned (.plain (OpenSpec.upto walCrashSpec)) walCrashUptoCard

/-- THE SECOND FORM's CARD OF 'turnoutlaw19.WalPlays'. -/
def walPlaysUptoCard : Claim7 := { stood := { row := walPlaysUptoRow, standIns := [], harness := (true, "12a480ad70f16c79d7ffb438a381495b6671b855b98ec4268ea5c924531f5945"), looks := true }, kinds := [], alts := [], laidByText := true, laidKinds := [.data, .sentinel, .sentinel], laidTests := true, laidLooks := .later }
def WalPlaysUptoCardSaid : Prop := Claim7.holds Tryd.pinned (.plain (OpenSpec.upto walPlaysSpec)) walPlaysUptoCard
end Rows
end Go.Proofs.YthkbecpgbjejkaaDoor
