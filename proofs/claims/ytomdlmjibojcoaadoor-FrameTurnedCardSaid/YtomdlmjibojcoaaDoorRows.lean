/-
  NARROWER THAN 'FOR EVERY INPUT', by the rows' own cells (each row's printed sentence says how): FrameSeals: laid · FrameOpens: laid · FrameBack: laid · FrameAgain: laid · FrameTurned: laid · FrameNil: laid · FrameWhole: laid · FrameKeeps: laid.
  DERIVED. THE GIVEN ROWS OF THIS SEAT. 8 by the template 'for every input the law returns true; each argument reads behind the call as it read before'; 0 by the template 'total and deterministic' (their statements: YtomdlmjibojcoaaDoorTotals.lean).
  GIVEN WITH THE SEED: the statements are not yours to turn. If you find one false, say at which input.
  Laid BY PROGRAM, IN A SANDBOX (cutbox-rows.mjs): the forced cells as the released guide's own fill.sh prints them over the translation aa32f418473ec0d7… (all of the seat's roots in one cut). By AI agents, Wed Nov 11 2026. No macro, syntax, notation, axiom, sorry.
-/
import Derived.Test.YtomdlmjibojcoaaDoorChecked
import GoSem.Claim
import GoSem.ClaimJoined
import GoSem.ClaimMapViews
import Derived.JoinedTies
import Derived.KernelRfl
namespace Go.Proofs.YtomdlmjibojcoaaDoor
/- THE CELL 'sum', in the pinned program and in every row, IS THE sha256 OF THE DUMP (.gsa) THAT YtomdlmjibojcoaaDoorProg.lean LOADS. Nothing in Lean hashes anything: it is a label: what it is worth is what the hold of that sum in a sandbox is worth. -/
noncomputable def Tryd.pinned : Pinned := { name := "ytomdlmjibojcoaadoor", sum := "aa32f418473ec0d728ea2ab575d1b742cebbe9d328ea926cd95d8728bb4e8cf4", checked := Tryd.checked }
namespace Rows
def none {H : Type} : Left H := { results := [], args := [] }

/- WHAT THE LISTED PACKAGE-LEVEL VARIABLES READ AS WHEN THE CALL BEGINS. Each datum BY PROGRAM (the guide's laid-datum.mjs) off the statement by which the dump's own 'gosem.cut.vars' lays the variable. In a bare row this is a premise. The card (YtomdlmjibojcoaaDoorCards.lean) ties it to the program's text. -/
def laid_turnout_sums_halves {H : Type} : DataW H := .agg [.lit (.int .u32 0), .lit (.int .u32 498536548), .lit (.int .u32 997073096), .lit (.int .u32 651767980), .lit (.int .u32 1994146192), .lit (.int .u32 1802195444), .lit (.int .u32 1303535960), .lit (.int .u32 1342533948), .lit (.int .u32 3988292384), .lit (.int .u32 4027552580), .lit (.int .u32 3604390888), .lit (.int .u32 3412177804), .lit (.int .u32 2607071920), .lit (.int .u32 2262029012), .lit (.int .u32 2685067896), .lit (.int .u32 3183342108)]

/-- 'turnoutlaw05.FrameSeals': WHATEVER THE INPUT: true; the input reads as it did. -/
def frameSealsSpec : ChangeSpec := { name := "frameSeals", fn := fun _ => fun
  | [d1, d2] => { results := [.lit (.bool true)], args := [d1, d2] }
  | _ => none }
def frameSealsRow : OpenClaim := { program := "ytomdlmjibojcoaadoor", sum := "aa32f418473ec0d728ea2ab575d1b742cebbe9d328ea926cd95d8728bb4e8cf4", func := "turnout/turnoutlaw05.FrameSeals", spec := "frameSeals", unfollowed := true, recurses := true, named := ["turnout/sums.halves"], apart := false, laid := [("turnout/sums.halves", laid_turnout_sums_halves)] }
def FrameSealsSaid : Prop := frameSealsRow.holds Tryd.pinned (OpenSpec.ofChange frameSealsSpec)

/-- ITS FALSE NEIGHBOUR: 'it returns false'. Refute it at one input. -/
def frameSealsWrong : ChangeSpec := { name := "frameSeals", fn := fun _ => fun
  | [d1, d2] => { results := [.lit (.bool false)], args := [d1, d2] }
  | _ => none }
def FrameSealsWrongFalsely : Prop := frameSealsRow.holds Tryd.pinned (OpenSpec.ofChange frameSealsWrong)

/-- 'turnoutlaw05.FrameOpens': WHATEVER THE INPUT: true; the input reads as it did. -/
def frameOpensSpec : ChangeSpec := { name := "frameOpens", fn := fun _ => fun
  | [d] => { results := [.lit (.bool true)], args := [d] }
  | _ => none }
def frameOpensRow : OpenClaim := { program := "ytomdlmjibojcoaadoor", sum := "aa32f418473ec0d728ea2ab575d1b742cebbe9d328ea926cd95d8728bb4e8cf4", func := "turnout/turnoutlaw05.FrameOpens", spec := "frameOpens", unfollowed := true, recurses := true, named := ["turnout/sums.halves"], apart := false, laid := [("turnout/sums.halves", laid_turnout_sums_halves)] }
def FrameOpensSaid : Prop := frameOpensRow.holds Tryd.pinned (OpenSpec.ofChange frameOpensSpec)

/-- ITS FALSE NEIGHBOUR: 'it returns false'. Refute it at one input. -/
def frameOpensWrong : ChangeSpec := { name := "frameOpens", fn := fun _ => fun
  | [d] => { results := [.lit (.bool false)], args := [d] }
  | _ => none }
def FrameOpensWrongFalsely : Prop := frameOpensRow.holds Tryd.pinned (OpenSpec.ofChange frameOpensWrong)

/-- 'turnoutlaw05.FrameBack': WHATEVER THE INPUT: true; the input reads as it did. -/
def frameBackSpec : ChangeSpec := { name := "frameBack", fn := fun _ => fun
  | [d1, d2, d3] => { results := [.lit (.bool true)], args := [d1, d2, d3] }
  | _ => none }
def frameBackRow : OpenClaim := { program := "ytomdlmjibojcoaadoor", sum := "aa32f418473ec0d728ea2ab575d1b742cebbe9d328ea926cd95d8728bb4e8cf4", func := "turnout/turnoutlaw05.FrameBack", spec := "frameBack", unfollowed := true, recurses := true, named := ["turnout/sums.halves"], apart := false, laid := [("turnout/sums.halves", laid_turnout_sums_halves)] }
def FrameBackSaid : Prop := frameBackRow.holds Tryd.pinned (OpenSpec.ofChange frameBackSpec)

/-- ITS FALSE NEIGHBOUR: 'it returns false'. Refute it at one input. -/
def frameBackWrong : ChangeSpec := { name := "frameBack", fn := fun _ => fun
  | [d1, d2, d3] => { results := [.lit (.bool false)], args := [d1, d2, d3] }
  | _ => none }
def FrameBackWrongFalsely : Prop := frameBackRow.holds Tryd.pinned (OpenSpec.ofChange frameBackWrong)

/-- 'turnoutlaw05.FrameAgain': WHATEVER THE INPUT: true; the input reads as it did. -/
def frameAgainSpec : ChangeSpec := { name := "frameAgain", fn := fun _ => fun
  | [d] => { results := [.lit (.bool true)], args := [d] }
  | _ => none }
def frameAgainRow : OpenClaim := { program := "ytomdlmjibojcoaadoor", sum := "aa32f418473ec0d728ea2ab575d1b742cebbe9d328ea926cd95d8728bb4e8cf4", func := "turnout/turnoutlaw05.FrameAgain", spec := "frameAgain", unfollowed := true, recurses := true, named := ["turnout/sums.halves"], apart := false, laid := [("turnout/sums.halves", laid_turnout_sums_halves)] }
def FrameAgainSaid : Prop := frameAgainRow.holds Tryd.pinned (OpenSpec.ofChange frameAgainSpec)

/-- ITS FALSE NEIGHBOUR: 'it returns false'. Refute it at one input. -/
def frameAgainWrong : ChangeSpec := { name := "frameAgain", fn := fun _ => fun
  | [d] => { results := [.lit (.bool false)], args := [d] }
  | _ => none }
def FrameAgainWrongFalsely : Prop := frameAgainRow.holds Tryd.pinned (OpenSpec.ofChange frameAgainWrong)

/-- 'turnoutlaw05.FrameTurned': WHATEVER THE INPUT: true; the input reads as it did. -/
def frameTurnedSpec : ChangeSpec := { name := "frameTurned", fn := fun _ => fun
  | [d1, d2, d3, d4] => { results := [.lit (.bool true)], args := [d1, d2, d3, d4] }
  | _ => none }
def frameTurnedRow : OpenClaim := { program := "ytomdlmjibojcoaadoor", sum := "aa32f418473ec0d728ea2ab575d1b742cebbe9d328ea926cd95d8728bb4e8cf4", func := "turnout/turnoutlaw05.FrameTurned", spec := "frameTurned", unfollowed := true, recurses := true, named := ["turnout/sums.halves"], apart := false, laid := [("turnout/sums.halves", laid_turnout_sums_halves)] }
def FrameTurnedSaid : Prop := frameTurnedRow.holds Tryd.pinned (OpenSpec.ofChange frameTurnedSpec)

/-- ITS FALSE NEIGHBOUR: 'it returns false'. Refute it at one input. -/
def frameTurnedWrong : ChangeSpec := { name := "frameTurned", fn := fun _ => fun
  | [d1, d2, d3, d4] => { results := [.lit (.bool false)], args := [d1, d2, d3, d4] }
  | _ => none }
def FrameTurnedWrongFalsely : Prop := frameTurnedRow.holds Tryd.pinned (OpenSpec.ofChange frameTurnedWrong)

/-- 'turnoutlaw05.FrameNil': WHATEVER THE INPUT: true; the input reads as it did. -/
def frameNilSpec : ChangeSpec := { name := "frameNil", fn := fun _ => fun
  | [d1, d2] => { results := [.lit (.bool true)], args := [d1, d2] }
  | _ => none }
def frameNilRow : OpenClaim := { program := "ytomdlmjibojcoaadoor", sum := "aa32f418473ec0d728ea2ab575d1b742cebbe9d328ea926cd95d8728bb4e8cf4", func := "turnout/turnoutlaw05.FrameNil", spec := "frameNil", unfollowed := true, recurses := true, named := ["turnout/sums.halves"], apart := false, laid := [("turnout/sums.halves", laid_turnout_sums_halves)] }
def FrameNilSaid : Prop := frameNilRow.holds Tryd.pinned (OpenSpec.ofChange frameNilSpec)

/-- ITS FALSE NEIGHBOUR: 'it returns false'. Refute it at one input. -/
def frameNilWrong : ChangeSpec := { name := "frameNil", fn := fun _ => fun
  | [d1, d2] => { results := [.lit (.bool false)], args := [d1, d2] }
  | _ => none }
def FrameNilWrongFalsely : Prop := frameNilRow.holds Tryd.pinned (OpenSpec.ofChange frameNilWrong)

/-- 'turnoutlaw05.FrameWhole': WHATEVER THE INPUT: true; the input reads as it did. -/
def frameWholeSpec : ChangeSpec := { name := "frameWhole", fn := fun _ => fun
  | [d1, d2, d3, d4, d5] => { results := [.lit (.bool true)], args := [d1, d2, d3, d4, d5] }
  | _ => none }
def frameWholeRow : OpenClaim := { program := "ytomdlmjibojcoaadoor", sum := "aa32f418473ec0d728ea2ab575d1b742cebbe9d328ea926cd95d8728bb4e8cf4", func := "turnout/turnoutlaw05.FrameWhole", spec := "frameWhole", unfollowed := true, recurses := true, named := ["turnout/sums.halves"], apart := false, laid := [("turnout/sums.halves", laid_turnout_sums_halves)] }
def FrameWholeSaid : Prop := frameWholeRow.holds Tryd.pinned (OpenSpec.ofChange frameWholeSpec)

/-- ITS FALSE NEIGHBOUR: 'it returns false'. Refute it at one input. -/
def frameWholeWrong : ChangeSpec := { name := "frameWhole", fn := fun _ => fun
  | [d1, d2, d3, d4, d5] => { results := [.lit (.bool false)], args := [d1, d2, d3, d4, d5] }
  | _ => none }
def FrameWholeWrongFalsely : Prop := frameWholeRow.holds Tryd.pinned (OpenSpec.ofChange frameWholeWrong)

/-- 'turnoutlaw05.FrameKeeps': WHATEVER THE INPUT: true; the input reads as it did. -/
def frameKeepsSpec : ChangeSpec := { name := "frameKeeps", fn := fun _ => fun
  | [d1, d2] => { results := [.lit (.bool true)], args := [d1, d2] }
  | _ => none }
def frameKeepsRow : OpenClaim := { program := "ytomdlmjibojcoaadoor", sum := "aa32f418473ec0d728ea2ab575d1b742cebbe9d328ea926cd95d8728bb4e8cf4", func := "turnout/turnoutlaw05.FrameKeeps", spec := "frameKeeps", unfollowed := true, recurses := true, named := ["turnout/sums.halves"], apart := false, laid := [("turnout/sums.halves", laid_turnout_sums_halves)] }
def FrameKeepsSaid : Prop := frameKeepsRow.holds Tryd.pinned (OpenSpec.ofChange frameKeepsSpec)

/-- ITS FALSE NEIGHBOUR: 'it returns false'. Refute it at one input. -/
def frameKeepsWrong : ChangeSpec := { name := "frameKeeps", fn := fun _ => fun
  | [d1, d2] => { results := [.lit (.bool false)], args := [d1, d2] }
  | _ => none }
def FrameKeepsWrongFalsely : Prop := frameKeepsRow.holds Tryd.pinned (OpenSpec.ofChange frameKeepsWrong)

/- THE SECOND FORM. 'bulk': how many values and letters a reading holds, each counted each time it is reached (what is shared counts as often as it is met; a slice's spare places count too). A statement '..UptoSaid' is the law's where the arguments, and the package variables that the reading takes, are together of bulk at most 1048576: NARROWER than '..Said'. Prove '..Said' where nothing that the law and all that it calls make is longer than what came in: it says more and counts as full. Else prove '..UptoSaid'. A law counts once. -/
mutual
def uptoBulk {H : Type} : DataW H → Nat
  | .lit (.string bytes) => bytes.length + 1
  | .lit _ => 1
  | .nil => 1
  | .ptr d => uptoBulk d + 1
  | .slice elems spare => uptoBulkAll elems + uptoBulkAll spare + 1
  | .agg parts => uptoBulkAll parts + 1
  | .iface _ d => uptoBulk d + 1
  | .map entries => uptoBulkEntries entries + 1
  | .held _ => 1
def uptoBulkAll {H : Type} : List (DataW H) → Nat
  | [] => 0
  | d :: r => uptoBulk d + uptoBulkAll r
def uptoBulkEntries {H : Type} : List (Lit × DataW H) → Nat
  | [] => 0
  | x :: r => uptoBulkEntry x + uptoBulkEntries r
def uptoBulkEntry {H : Type} : Lit × DataW H → Nat
  | (.string bytes, d) => bytes.length + uptoBulk d + 1
  | (_, d) => uptoBulk d + 1
 end
def uptoSmall : (H : Type) → List (DataW H) → Bool := fun _ ds => decide (uptoBulkAll ds ≤ 1048576)
def OpenSpec.upto (s : _root_.Go.ChangeSpec) : _root_.Go.OpenSpec := { _root_.Go.OpenSpec.ofChange s with cond := some uptoSmall }

/-- 'turnoutlaw05.FrameSeals', WHERE WHAT IT READS IS OF BULK AT MOST 1048576: true; the input reads as it did. -/
def frameSealsUptoRow : OpenClaim := { program := "ytomdlmjibojcoaadoor", sum := "aa32f418473ec0d728ea2ab575d1b742cebbe9d328ea926cd95d8728bb4e8cf4", func := "turnout/turnoutlaw05.FrameSeals", spec := "frameSeals", unfollowed := true, recurses := true, named := ["turnout/sums.halves"], apart := false, laid := [("turnout/sums.halves", laid_turnout_sums_halves)], narrowed := true }
def FrameSealsUptoSaid : Prop := frameSealsUptoRow.holds Tryd.pinned (OpenSpec.upto frameSealsSpec)

/-- 'turnoutlaw05.FrameOpens', WHERE WHAT IT READS IS OF BULK AT MOST 1048576: true; the input reads as it did. -/
def frameOpensUptoRow : OpenClaim := { program := "ytomdlmjibojcoaadoor", sum := "aa32f418473ec0d728ea2ab575d1b742cebbe9d328ea926cd95d8728bb4e8cf4", func := "turnout/turnoutlaw05.FrameOpens", spec := "frameOpens", unfollowed := true, recurses := true, named := ["turnout/sums.halves"], apart := false, laid := [("turnout/sums.halves", laid_turnout_sums_halves)], narrowed := true }
def FrameOpensUptoSaid : Prop := frameOpensUptoRow.holds Tryd.pinned (OpenSpec.upto frameOpensSpec)

/-- 'turnoutlaw05.FrameBack', WHERE WHAT IT READS IS OF BULK AT MOST 1048576: true; the input reads as it did. -/
def frameBackUptoRow : OpenClaim := { program := "ytomdlmjibojcoaadoor", sum := "aa32f418473ec0d728ea2ab575d1b742cebbe9d328ea926cd95d8728bb4e8cf4", func := "turnout/turnoutlaw05.FrameBack", spec := "frameBack", unfollowed := true, recurses := true, named := ["turnout/sums.halves"], apart := false, laid := [("turnout/sums.halves", laid_turnout_sums_halves)], narrowed := true }
def FrameBackUptoSaid : Prop := frameBackUptoRow.holds Tryd.pinned (OpenSpec.upto frameBackSpec)

/-- 'turnoutlaw05.FrameAgain', WHERE WHAT IT READS IS OF BULK AT MOST 1048576: true; the input reads as it did. -/
def frameAgainUptoRow : OpenClaim := { program := "ytomdlmjibojcoaadoor", sum := "aa32f418473ec0d728ea2ab575d1b742cebbe9d328ea926cd95d8728bb4e8cf4", func := "turnout/turnoutlaw05.FrameAgain", spec := "frameAgain", unfollowed := true, recurses := true, named := ["turnout/sums.halves"], apart := false, laid := [("turnout/sums.halves", laid_turnout_sums_halves)], narrowed := true }
def FrameAgainUptoSaid : Prop := frameAgainUptoRow.holds Tryd.pinned (OpenSpec.upto frameAgainSpec)

/-- 'turnoutlaw05.FrameTurned', WHERE WHAT IT READS IS OF BULK AT MOST 1048576: true; the input reads as it did. -/
def frameTurnedUptoRow : OpenClaim := { program := "ytomdlmjibojcoaadoor", sum := "aa32f418473ec0d728ea2ab575d1b742cebbe9d328ea926cd95d8728bb4e8cf4", func := "turnout/turnoutlaw05.FrameTurned", spec := "frameTurned", unfollowed := true, recurses := true, named := ["turnout/sums.halves"], apart := false, laid := [("turnout/sums.halves", laid_turnout_sums_halves)], narrowed := true }
def FrameTurnedUptoSaid : Prop := frameTurnedUptoRow.holds Tryd.pinned (OpenSpec.upto frameTurnedSpec)

/-- 'turnoutlaw05.FrameNil', WHERE WHAT IT READS IS OF BULK AT MOST 1048576: true; the input reads as it did. -/
def frameNilUptoRow : OpenClaim := { program := "ytomdlmjibojcoaadoor", sum := "aa32f418473ec0d728ea2ab575d1b742cebbe9d328ea926cd95d8728bb4e8cf4", func := "turnout/turnoutlaw05.FrameNil", spec := "frameNil", unfollowed := true, recurses := true, named := ["turnout/sums.halves"], apart := false, laid := [("turnout/sums.halves", laid_turnout_sums_halves)], narrowed := true }
def FrameNilUptoSaid : Prop := frameNilUptoRow.holds Tryd.pinned (OpenSpec.upto frameNilSpec)

/-- 'turnoutlaw05.FrameWhole', WHERE WHAT IT READS IS OF BULK AT MOST 1048576: true; the input reads as it did. -/
def frameWholeUptoRow : OpenClaim := { program := "ytomdlmjibojcoaadoor", sum := "aa32f418473ec0d728ea2ab575d1b742cebbe9d328ea926cd95d8728bb4e8cf4", func := "turnout/turnoutlaw05.FrameWhole", spec := "frameWhole", unfollowed := true, recurses := true, named := ["turnout/sums.halves"], apart := false, laid := [("turnout/sums.halves", laid_turnout_sums_halves)], narrowed := true }
def FrameWholeUptoSaid : Prop := frameWholeUptoRow.holds Tryd.pinned (OpenSpec.upto frameWholeSpec)

/-- 'turnoutlaw05.FrameKeeps', WHERE WHAT IT READS IS OF BULK AT MOST 1048576: true; the input reads as it did. -/
def frameKeepsUptoRow : OpenClaim := { program := "ytomdlmjibojcoaadoor", sum := "aa32f418473ec0d728ea2ab575d1b742cebbe9d328ea926cd95d8728bb4e8cf4", func := "turnout/turnoutlaw05.FrameKeeps", spec := "frameKeeps", unfollowed := true, recurses := true, named := ["turnout/sums.halves"], apart := false, laid := [("turnout/sums.halves", laid_turnout_sums_halves)], narrowed := true }
def FrameKeepsUptoSaid : Prop := frameKeepsUptoRow.holds Tryd.pinned (OpenSpec.upto frameKeepsSpec)

end Rows
end Go.Proofs.YtomdlmjibojcoaaDoor
