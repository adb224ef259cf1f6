/-
  NARROWER THAN 'FOR EVERY INPUT', by the rows' own cells (each row's printed sentence says how): WalNil: laid · WalFull: laid · WalOnce: laid · WalScans: laid · WalBack: laid · WalCrash: laid · WalPlays: laid.
  DERIVED. THE GIVEN ROWS OF THIS SEAT. 7 by the template 'for every input the law returns true; each argument reads behind the call as it read before'; 0 by the template 'total and deterministic' (their statements: YthkbecpgbjejkaaDoorTotals.lean).
  GIVEN WITH THE SEED: the statements are not yours to turn. If you find one false, say at which input.
  Laid BY PROGRAM, IN A SANDBOX (cutbox-rows.mjs): the forced cells as the released guide's own fill.sh prints them over the translation c1a48d5c393a9a2b… (all of the seat's roots in one cut). By AI agents, Wed Nov 11 2026. No macro, syntax, notation, axiom, sorry.
-/
import Derived.Test.YthkbecpgbjejkaaDoorChecked
import GoSem.Claim
import GoSem.ClaimJoined
import GoSem.ClaimMapViews
import Derived.JoinedTies
import Derived.KernelRfl
namespace Go.Proofs.YthkbecpgbjejkaaDoor
/- THE CELL 'sum', in the pinned program and in every row, IS THE sha256 OF THE DUMP (.gsa) THAT YthkbecpgbjejkaaDoorProg.lean LOADS. Nothing in Lean hashes anything: it is a label: what it is worth is what the hold of that sum in a sandbox is worth. -/
noncomputable def Tryd.pinned : Pinned := { name := "ythkbecpgbjejkaadoor", sum := "c1a48d5c393a9a2baa0e3fb447b21a560012b36cfe0fd8db04bd3d572db3165f", checked := Tryd.checked }
namespace Rows
def none {H : Type} : Left H := { results := [], args := [] }

/- WHAT THE LISTED PACKAGE-LEVEL VARIABLES READ AS WHEN THE CALL BEGINS. Each datum BY PROGRAM (the guide's laid-datum.mjs) off the statement by which the dump's own 'gosem.cut.vars' lays the variable. In a bare row this is a premise. The card (YthkbecpgbjejkaaDoorCards.lean) ties it to the program's text. -/
def laid_turnout_sums_halves {H : Type} : DataW H := .agg [.lit (.int .u32 0), .lit (.int .u32 498536548), .lit (.int .u32 997073096), .lit (.int .u32 651767980), .lit (.int .u32 1994146192), .lit (.int .u32 1802195444), .lit (.int .u32 1303535960), .lit (.int .u32 1342533948), .lit (.int .u32 3988292384), .lit (.int .u32 4027552580), .lit (.int .u32 3604390888), .lit (.int .u32 3412177804), .lit (.int .u32 2607071920), .lit (.int .u32 2262029012), .lit (.int .u32 2685067896), .lit (.int .u32 3183342108)]
def laid_turnout_wal_errShort {H : Type} : DataW H := .iface "*errors.errorString" (.ptr (.agg [.lit (.string [119, 97, 108, 58, 32, 97, 32, 112, 105, 101, 99, 101, 32, 116, 104, 97, 116, 32, 105, 115, 32, 110, 111, 116, 32, 119, 104, 111, 108, 101])]))
def laid_turnout_wal_errOrder {H : Type} : DataW H := .iface "*errors.errorString" (.ptr (.agg [.lit (.string [119, 97, 108, 58, 32, 97, 32, 112, 105, 101, 99, 101, 32, 116, 104, 97, 116, 32, 99, 97, 110, 39, 116, 32, 115, 116, 97, 110, 100, 32, 116, 104, 101, 114, 101])]))

/-- 'turnoutlaw19.WalNil': WHATEVER THE INPUT: true; the input reads as it did. -/
def walNilSpec : ChangeSpec := { name := "walNil", fn := fun _ => fun
  | [d1, d2, d3, d4] => { results := [.lit (.bool true)], args := [d1, d2, d3, d4] }
  | _ => none }
def walNilRow : OpenClaim := { program := "ythkbecpgbjejkaadoor", sum := "c1a48d5c393a9a2baa0e3fb447b21a560012b36cfe0fd8db04bd3d572db3165f", func := "turnout/turnoutlaw19.WalNil", spec := "walNil", unfollowed := true, recurses := true, named := ["turnout/sums.halves", "turnout/wal.errShort", "turnout/wal.errOrder"], apart := false, laid := [("turnout/sums.halves", laid_turnout_sums_halves), ("turnout/wal.errShort", laid_turnout_wal_errShort), ("turnout/wal.errOrder", laid_turnout_wal_errOrder)] }
def WalNilSaid : Prop := walNilRow.holds Tryd.pinned (OpenSpec.ofChange walNilSpec)

/-- ITS FALSE NEIGHBOUR: 'it returns false'. Refute it at one input. -/
def walNilWrong : ChangeSpec := { name := "walNil", fn := fun _ => fun
  | [d1, d2, d3, d4] => { results := [.lit (.bool false)], args := [d1, d2, d3, d4] }
  | _ => none }
def WalNilWrongFalsely : Prop := walNilRow.holds Tryd.pinned (OpenSpec.ofChange walNilWrong)

/-- 'turnoutlaw19.WalFull': WHATEVER THE INPUT: true; the input reads as it did. -/
def walFullSpec : ChangeSpec := { name := "walFull", fn := fun _ => fun
  | [d1, d2] => { results := [.lit (.bool true)], args := [d1, d2] }
  | _ => none }
def walFullRow : OpenClaim := { program := "ythkbecpgbjejkaadoor", sum := "c1a48d5c393a9a2baa0e3fb447b21a560012b36cfe0fd8db04bd3d572db3165f", func := "turnout/turnoutlaw19.WalFull", spec := "walFull", unfollowed := true, recurses := true, named := ["turnout/sums.halves", "turnout/wal.errShort", "turnout/wal.errOrder"], apart := false, laid := [("turnout/sums.halves", laid_turnout_sums_halves), ("turnout/wal.errShort", laid_turnout_wal_errShort), ("turnout/wal.errOrder", laid_turnout_wal_errOrder)] }
def WalFullSaid : Prop := walFullRow.holds Tryd.pinned (OpenSpec.ofChange walFullSpec)

/-- ITS FALSE NEIGHBOUR: 'it returns false'. Refute it at one input. -/
def walFullWrong : ChangeSpec := { name := "walFull", fn := fun _ => fun
  | [d1, d2] => { results := [.lit (.bool false)], args := [d1, d2] }
  | _ => none }
def WalFullWrongFalsely : Prop := walFullRow.holds Tryd.pinned (OpenSpec.ofChange walFullWrong)

/-- 'turnoutlaw19.WalOnce': WHATEVER THE INPUT: true; the input reads as it did. -/
def walOnceSpec : ChangeSpec := { name := "walOnce", fn := fun _ => fun
  | [d1, d2, d3, d4] => { results := [.lit (.bool true)], args := [d1, d2, d3, d4] }
  | _ => none }
def walOnceRow : OpenClaim := { program := "ythkbecpgbjejkaadoor", sum := "c1a48d5c393a9a2baa0e3fb447b21a560012b36cfe0fd8db04bd3d572db3165f", func := "turnout/turnoutlaw19.WalOnce", spec := "walOnce", unfollowed := true, recurses := true, named := ["turnout/sums.halves", "turnout/wal.errShort", "turnout/wal.errOrder"], apart := false, laid := [("turnout/sums.halves", laid_turnout_sums_halves), ("turnout/wal.errShort", laid_turnout_wal_errShort), ("turnout/wal.errOrder", laid_turnout_wal_errOrder)] }
def WalOnceSaid : Prop := walOnceRow.holds Tryd.pinned (OpenSpec.ofChange walOnceSpec)

/-- ITS FALSE NEIGHBOUR: 'it returns false'. Refute it at one input. -/
def walOnceWrong : ChangeSpec := { name := "walOnce", fn := fun _ => fun
  | [d1, d2, d3, d4] => { results := [.lit (.bool false)], args := [d1, d2, d3, d4] }
  | _ => none }
def WalOnceWrongFalsely : Prop := walOnceRow.holds Tryd.pinned (OpenSpec.ofChange walOnceWrong)

/-- 'turnoutlaw19.WalScans': WHATEVER THE INPUT: true; the input reads as it did. -/
def walScansSpec : ChangeSpec := { name := "walScans", fn := fun _ => fun
  | [d1, d2, d3, d4] => { results := [.lit (.bool true)], args := [d1, d2, d3, d4] }
  | _ => none }
def walScansRow : OpenClaim := { program := "ythkbecpgbjejkaadoor", sum := "c1a48d5c393a9a2baa0e3fb447b21a560012b36cfe0fd8db04bd3d572db3165f", func := "turnout/turnoutlaw19.WalScans", spec := "walScans", unfollowed := true, recurses := true, named := ["turnout/sums.halves", "turnout/wal.errShort", "turnout/wal.errOrder"], apart := false, laid := [("turnout/sums.halves", laid_turnout_sums_halves), ("turnout/wal.errShort", laid_turnout_wal_errShort), ("turnout/wal.errOrder", laid_turnout_wal_errOrder)] }
def WalScansSaid : Prop := walScansRow.holds Tryd.pinned (OpenSpec.ofChange walScansSpec)

/-- ITS FALSE NEIGHBOUR: 'it returns false'. Refute it at one input. -/
def walScansWrong : ChangeSpec := { name := "walScans", fn := fun _ => fun
  | [d1, d2, d3, d4] => { results := [.lit (.bool false)], args := [d1, d2, d3, d4] }
  | _ => none }
def WalScansWrongFalsely : Prop := walScansRow.holds Tryd.pinned (OpenSpec.ofChange walScansWrong)

/-- 'turnoutlaw19.WalBack': WHATEVER THE INPUT: true; the input reads as it did. -/
def walBackSpec : ChangeSpec := { name := "walBack", fn := fun _ => fun
  | [d1, d2, d3] => { results := [.lit (.bool true)], args := [d1, d2, d3] }
  | _ => none }
def walBackRow : OpenClaim := { program := "ythkbecpgbjejkaadoor", sum := "c1a48d5c393a9a2baa0e3fb447b21a560012b36cfe0fd8db04bd3d572db3165f", func := "turnout/turnoutlaw19.WalBack", spec := "walBack", unfollowed := true, recurses := true, named := ["turnout/sums.halves", "turnout/wal.errShort", "turnout/wal.errOrder"], apart := false, laid := [("turnout/sums.halves", laid_turnout_sums_halves), ("turnout/wal.errShort", laid_turnout_wal_errShort), ("turnout/wal.errOrder", laid_turnout_wal_errOrder)] }
def WalBackSaid : Prop := walBackRow.holds Tryd.pinned (OpenSpec.ofChange walBackSpec)

/-- ITS FALSE NEIGHBOUR: 'it returns false'. Refute it at one input. -/
def walBackWrong : ChangeSpec := { name := "walBack", fn := fun _ => fun
  | [d1, d2, d3] => { results := [.lit (.bool false)], args := [d1, d2, d3] }
  | _ => none }
def WalBackWrongFalsely : Prop := walBackRow.holds Tryd.pinned (OpenSpec.ofChange walBackWrong)

/-- 'turnoutlaw19.WalCrash': WHATEVER THE INPUT: true; the input reads as it did. -/
def walCrashSpec : ChangeSpec := { name := "walCrash", fn := fun _ => fun
  | [d1, d2, d3] => { results := [.lit (.bool true)], args := [d1, d2, d3] }
  | _ => none }
def walCrashRow : OpenClaim := { program := "ythkbecpgbjejkaadoor", sum := "c1a48d5c393a9a2baa0e3fb447b21a560012b36cfe0fd8db04bd3d572db3165f", func := "turnout/turnoutlaw19.WalCrash", spec := "walCrash", unfollowed := true, recurses := true, named := ["turnout/sums.halves", "turnout/wal.errShort", "turnout/wal.errOrder"], apart := false, laid := [("turnout/sums.halves", laid_turnout_sums_halves), ("turnout/wal.errShort", laid_turnout_wal_errShort), ("turnout/wal.errOrder", laid_turnout_wal_errOrder)] }
def WalCrashSaid : Prop := walCrashRow.holds Tryd.pinned (OpenSpec.ofChange walCrashSpec)

/-- ITS FALSE NEIGHBOUR: 'it returns false'. Refute it at one input. -/
def walCrashWrong : ChangeSpec := { name := "walCrash", fn := fun _ => fun
  | [d1, d2, d3] => { results := [.lit (.bool false)], args := [d1, d2, d3] }
  | _ => none }
def WalCrashWrongFalsely : Prop := walCrashRow.holds Tryd.pinned (OpenSpec.ofChange walCrashWrong)

/-- 'turnoutlaw19.WalPlays': WHATEVER THE INPUT: true; the input reads as it did. -/
def walPlaysSpec : ChangeSpec := { name := "walPlays", fn := fun _ => fun
  | [d1, d2, d3] => { results := [.lit (.bool true)], args := [d1, d2, d3] }
  | _ => none }
def walPlaysRow : OpenClaim := { program := "ythkbecpgbjejkaadoor", sum := "c1a48d5c393a9a2baa0e3fb447b21a560012b36cfe0fd8db04bd3d572db3165f", func := "turnout/turnoutlaw19.WalPlays", spec := "walPlays", unfollowed := true, recurses := true, named := ["turnout/sums.halves", "turnout/wal.errShort", "turnout/wal.errOrder"], apart := false, laid := [("turnout/sums.halves", laid_turnout_sums_halves), ("turnout/wal.errShort", laid_turnout_wal_errShort), ("turnout/wal.errOrder", laid_turnout_wal_errOrder)] }
def WalPlaysSaid : Prop := walPlaysRow.holds Tryd.pinned (OpenSpec.ofChange walPlaysSpec)

/-- ITS FALSE NEIGHBOUR: 'it returns false'. Refute it at one input. -/
def walPlaysWrong : ChangeSpec := { name := "walPlays", fn := fun _ => fun
  | [d1, d2, d3] => { results := [.lit (.bool false)], args := [d1, d2, d3] }
  | _ => none }
def WalPlaysWrongFalsely : Prop := walPlaysRow.holds Tryd.pinned (OpenSpec.ofChange walPlaysWrong)

/- THE SECOND FORM. 'bulk': how many values and letters a reading holds, each counted each time it is reached (what is shared counts as often as it is met; a slice's spare places count too). A statement '..UptoSaid' is the law's where the arguments, and the package variables that the reading takes, are together of bulk at most 1048576: NARROWER than '..Said'. Prove '..Said' where nothing that the law and all that it calls make is longer than what came in: it says more and counts as full. Else prove '..UptoSaid'. A law counts once. -/
mutual
def uptoBulk {H : Type} : DataW H → Nat
  | .lit (.string bytes) => bytes.length + 1
  | .lit _ => 1
  | .nil => 1
  | .ptr d => uptoBulk d + 1
  | .slice elems spare => uptoBulkAll elems + uptoBulkAll spare + 1
  | .agg parts => uptoBulkAll parts + 1
  | .iface _ d => uptoBulk d + 1
  | .map entries => uptoBulkEntries entries + 1
  | .held _ => 1
def uptoBulkAll {H : Type} : List (DataW H) → Nat
  | [] => 0
  | d :: r => uptoBulk d + uptoBulkAll r
def uptoBulkEntries {H : Type} : List (Lit × DataW H) → Nat
  | [] => 0
  | x :: r => uptoBulkEntry x + uptoBulkEntries r
def uptoBulkEntry {H : Type} : Lit × DataW H → Nat
  | (.string bytes, d) => bytes.length + uptoBulk d + 1
  | (_, d) => uptoBulk d + 1
 end
def uptoSmall : (H : Type) → List (DataW H) → Bool := fun _ ds => decide (uptoBulkAll ds ≤ 1048576)
def OpenSpec.upto (s : _root_.Go.ChangeSpec) : _root_.Go.OpenSpec := { _root_.Go.OpenSpec.ofChange s with cond := some uptoSmall }

/-- 'turnoutlaw19.WalNil', WHERE WHAT IT READS IS OF BULK AT MOST 1048576: true; the input reads as it did. -/
def walNilUptoRow : OpenClaim := { program := "ythkbecpgbjejkaadoor", sum := "c1a48d5c393a9a2baa0e3fb447b21a560012b36cfe0fd8db04bd3d572db3165f", func := "turnout/turnoutlaw19.WalNil", spec := "walNil", unfollowed := true, recurses := true, named := ["turnout/sums.halves", "turnout/wal.errShort", "turnout/wal.errOrder"], apart := false, laid := [("turnout/sums.halves", laid_turnout_sums_halves), ("turnout/wal.errShort", laid_turnout_wal_errShort), ("turnout/wal.errOrder", laid_turnout_wal_errOrder)], narrowed := true }
def WalNilUptoSaid : Prop := walNilUptoRow.holds Tryd.pinned (OpenSpec.upto walNilSpec)

/-- 'turnoutlaw19.WalFull', WHERE WHAT IT READS IS OF BULK AT MOST 1048576: true; the input reads as it did. -/
def walFullUptoRow : OpenClaim := { program := "ythkbecpgbjejkaadoor", sum := "c1a48d5c393a9a2baa0e3fb447b21a560012b36cfe0fd8db04bd3d572db3165f", func := "turnout/turnoutlaw19.WalFull", spec := "walFull", unfollowed := true, recurses := true, named := ["turnout/sums.halves", "turnout/wal.errShort", "turnout/wal.errOrder"], apart := false, laid := [("turnout/sums.halves", laid_turnout_sums_halves), ("turnout/wal.errShort", laid_turnout_wal_errShort), ("turnout/wal.errOrder", laid_turnout_wal_errOrder)], narrowed := true }
def WalFullUptoSaid : Prop := walFullUptoRow.holds Tryd.pinned (OpenSpec.upto walFullSpec)

/-- 'turnoutlaw19.WalOnce', WHERE WHAT IT READS IS OF BULK AT MOST 1048576: true; the input reads as it did. -/
def walOnceUptoRow : OpenClaim := { program := "ythkbecpgbjejkaadoor", sum := "c1a48d5c393a9a2baa0e3fb447b21a560012b36cfe0fd8db04bd3d572db3165f", func := "turnout/turnoutlaw19.WalOnce", spec := "walOnce", unfollowed := true, recurses := true, named := ["turnout/sums.halves", "turnout/wal.errShort", "turnout/wal.errOrder"], apart := false, laid := [("turnout/sums.halves", laid_turnout_sums_halves), ("turnout/wal.errShort", laid_turnout_wal_errShort), ("turnout/wal.errOrder", laid_turnout_wal_errOrder)], narrowed := true }
def WalOnceUptoSaid : Prop := walOnceUptoRow.holds Tryd.pinned (OpenSpec.upto walOnceSpec)

/-- 'turnoutlaw19.WalScans', WHERE WHAT IT READS IS OF BULK AT MOST 1048576: true; the input reads as it did. -/
def walScansUptoRow : OpenClaim := { program := "ythkbecpgbjejkaadoor", sum := "c1a48d5c393a9a2baa0e3fb447b21a560012b36cfe0fd8db04bd3d572db3165f", func := "turnout/turnoutlaw19.WalScans", spec := "walScans", unfollowed := true, recurses := true, named := ["turnout/sums.halves", "turnout/wal.errShort", "turnout/wal.errOrder"], apart := false, laid := [("turnout/sums.halves", laid_turnout_sums_halves), ("turnout/wal.errShort", laid_turnout_wal_errShort), ("turnout/wal.errOrder", laid_turnout_wal_errOrder)], narrowed := true }
def WalScansUptoSaid : Prop := walScansUptoRow.holds Tryd.pinned (OpenSpec.upto walScansSpec)

/-- 'turnoutlaw19.WalBack', WHERE WHAT IT READS IS OF BULK AT MOST 1048576: true; the input reads as it did. -/
def walBackUptoRow : OpenClaim := { program := "ythkbecpgbjejkaadoor", sum := "c1a48d5c393a9a2baa0e3fb447b21a560012b36cfe0fd8db04bd3d572db3165f", func := "turnout/turnoutlaw19.WalBack", spec := "walBack", unfollowed := true, recurses := true, named := ["turnout/sums.halves", "turnout/wal.errShort", "turnout/wal.errOrder"], apart := false, laid := [("turnout/sums.halves", laid_turnout_sums_halves), ("turnout/wal.errShort", laid_turnout_wal_errShort), ("turnout/wal.errOrder", laid_turnout_wal_errOrder)], narrowed := true }
def WalBackUptoSaid : Prop := walBackUptoRow.holds Tryd.pinned (OpenSpec.upto walBackSpec)

/-- 'turnoutlaw19.WalCrash', WHERE WHAT IT READS IS OF BULK AT MOST 1048576: true; the input reads as it did. -/
def walCrashUptoRow : OpenClaim := { program := "ythkbecpgbjejkaadoor", sum := "c1a48d5c393a9a2baa0e3fb447b21a560012b36cfe0fd8db04bd3d572db3165f", func := "turnout/turnoutlaw19.WalCrash", spec := "walCrash", unfollowed := true, recurses := true, named := ["turnout/sums.halves", "turnout/wal.errShort", "turnout/wal.errOrder"], apart := false, laid := [("turnout/sums.halves", laid_turnout_sums_halves), ("turnout/wal.errShort", laid_turnout_wal_errShort), ("turnout/wal.errOrder", laid_turnout_wal_errOrder)], narrowed := true }
def WalCrashUptoSaid : Prop := walCrashUptoRow.holds Tryd.pinned (OpenSpec.upto walCrashSpec)

/-- 'turnoutlaw19.WalPlays', WHERE WHAT IT READS IS OF BULK AT MOST 1048576: true; the input reads as it did. -/
def walPlaysUptoRow : OpenClaim := { program := "ythkbecpgbjejkaadoor", sum := "c1a48d5c393a9a2baa0e3fb447b21a560012b36cfe0fd8db04bd3d572db3165f", func := "turnout/turnoutlaw19.WalPlays", spec := "walPlays", unfollowed := true, recurses := true, named := ["turnout/sums.halves", "turnout/wal.errShort", "turnout/wal.errOrder"], apart := false, laid := [("turnout/sums.halves", laid_turnout_sums_halves), ("turnout/wal.errShort", laid_turnout_wal_errShort), ("turnout/wal.errOrder", laid_turnout_wal_errOrder)], narrowed := true }
def WalPlaysUptoSaid : Prop := walPlaysUptoRow.holds Tryd.pinned (OpenSpec.upto walPlaysSpec)

end Rows
end Go.Proofs.YthkbecpgbjejkaaDoor
