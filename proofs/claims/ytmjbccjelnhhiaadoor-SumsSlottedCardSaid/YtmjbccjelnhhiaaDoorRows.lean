/-
  NARROWER THAN 'FOR EVERY INPUT', by the rows' own cells (each row's printed sentence says how): SumsSpreads: laid · SumsApart: laid · SumsSlotted: laid · SumsSums: laid · SumsOnes: laid · SumsPatched: laid · SumsFours: laid · SumsJoins: laid · SumsJoined: laid.
  DERIVED. THE GIVEN ROWS OF THIS SEAT. 9 by the template 'for every input the law returns true; each argument reads behind the call as it read before'; 0 by the template 'total and deterministic' (their statements: YtmjbccjelnhhiaaDoorTotals.lean).
  GIVEN WITH THE SEED: the statements are not yours to turn. If you find one false, say at which input.
  Laid BY PROGRAM, IN A SANDBOX (cutbox-rows.mjs): the forced cells as the released guide's own fill.sh prints them over the translation ae8301cac6557f4e… (all of the seat's roots in one cut). By AI agents, Wed Nov 11 2026. No macro, syntax, notation, axiom, sorry.
-/
import Derived.Test.YtmjbccjelnhhiaaDoorChecked
import GoSem.Claim
import GoSem.ClaimJoined
import GoSem.ClaimMapViews
import Derived.JoinedTies
import Derived.KernelRfl
namespace Go.Proofs.YtmjbccjelnhhiaaDoor
/- THE CELL 'sum', in the pinned program and in every row, IS THE sha256 OF THE DUMP (.gsa) THAT YtmjbccjelnhhiaaDoorProg.lean LOADS. Nothing in Lean hashes anything: it is a label: what it is worth is what the hold of that sum in a sandbox is worth. -/
noncomputable def Tryd.pinned : Pinned := { name := "ytmjbccjelnhhiaadoor", sum := "ae8301cac6557f4e9d12957ba69bfb14253c33b896e7f66c924cecf9c45aa3bb", checked := Tryd.checked }
namespace Rows
def none {H : Type} : Left H := { results := [], args := [] }

/- WHAT THE LISTED PACKAGE-LEVEL VARIABLES READ AS WHEN THE CALL BEGINS. Each datum BY PROGRAM (the guide's laid-datum.mjs) off the statement by which the dump's own 'gosem.cut.vars' lays the variable. In a bare row this is a premise. The card (YtmjbccjelnhhiaaDoorCards.lean) ties it to the program's text. -/
def laid_turnout_sums_halves {H : Type} : DataW H := .agg [.lit (.int .u32 0), .lit (.int .u32 498536548), .lit (.int .u32 997073096), .lit (.int .u32 651767980), .lit (.int .u32 1994146192), .lit (.int .u32 1802195444), .lit (.int .u32 1303535960), .lit (.int .u32 1342533948), .lit (.int .u32 3988292384), .lit (.int .u32 4027552580), .lit (.int .u32 3604390888), .lit (.int .u32 3412177804), .lit (.int .u32 2607071920), .lit (.int .u32 2262029012), .lit (.int .u32 2685067896), .lit (.int .u32 3183342108)]

/-- 'turnoutlaw02.SumsSpreads': WHATEVER THE INPUT: true; the input reads as it did. -/
def sumsSpreadsSpec : ChangeSpec := { name := "sumsSpreads", fn := fun _ => fun
  | [d1, d2, d3] => { results := [.lit (.bool true)], args := [d1, d2, d3] }
  | _ => none }
def sumsSpreadsRow : OpenClaim := { program := "ytmjbccjelnhhiaadoor", sum := "ae8301cac6557f4e9d12957ba69bfb14253c33b896e7f66c924cecf9c45aa3bb", func := "turnout/turnoutlaw02.SumsSpreads", spec := "sumsSpreads", named := ["turnout/sums.halves"], apart := false, laid := [("turnout/sums.halves", laid_turnout_sums_halves)] }
def SumsSpreadsSaid : Prop := sumsSpreadsRow.holds Tryd.pinned (OpenSpec.ofChange sumsSpreadsSpec)

/-- ITS FALSE NEIGHBOUR: 'it returns false'. Refute it at one input. -/
def sumsSpreadsWrong : ChangeSpec := { name := "sumsSpreads", fn := fun _ => fun
  | [d1, d2, d3] => { results := [.lit (.bool false)], args := [d1, d2, d3] }
  | _ => none }
def SumsSpreadsWrongFalsely : Prop := sumsSpreadsRow.holds Tryd.pinned (OpenSpec.ofChange sumsSpreadsWrong)

/-- 'turnoutlaw02.SumsApart': WHATEVER THE INPUT: true; the input reads as it did. -/
def sumsApartSpec : ChangeSpec := { name := "sumsApart", fn := fun _ => fun
  | [d1, d2, d3] => { results := [.lit (.bool true)], args := [d1, d2, d3] }
  | _ => none }
def sumsApartRow : OpenClaim := { program := "ytmjbccjelnhhiaadoor", sum := "ae8301cac6557f4e9d12957ba69bfb14253c33b896e7f66c924cecf9c45aa3bb", func := "turnout/turnoutlaw02.SumsApart", spec := "sumsApart", named := ["turnout/sums.halves"], apart := false, laid := [("turnout/sums.halves", laid_turnout_sums_halves)] }
def SumsApartSaid : Prop := sumsApartRow.holds Tryd.pinned (OpenSpec.ofChange sumsApartSpec)

/-- ITS FALSE NEIGHBOUR: 'it returns false'. Refute it at one input. -/
def sumsApartWrong : ChangeSpec := { name := "sumsApart", fn := fun _ => fun
  | [d1, d2, d3] => { results := [.lit (.bool false)], args := [d1, d2, d3] }
  | _ => none }
def SumsApartWrongFalsely : Prop := sumsApartRow.holds Tryd.pinned (OpenSpec.ofChange sumsApartWrong)

/-- 'turnoutlaw02.SumsSlotted': WHATEVER THE INPUT: true; the input reads as it did. -/
def sumsSlottedSpec : ChangeSpec := { name := "sumsSlotted", fn := fun _ => fun
  | [d1, d2, d3] => { results := [.lit (.bool true)], args := [d1, d2, d3] }
  | _ => none }
def sumsSlottedRow : OpenClaim := { program := "ytmjbccjelnhhiaadoor", sum := "ae8301cac6557f4e9d12957ba69bfb14253c33b896e7f66c924cecf9c45aa3bb", func := "turnout/turnoutlaw02.SumsSlotted", spec := "sumsSlotted", named := ["turnout/sums.halves"], apart := false, laid := [("turnout/sums.halves", laid_turnout_sums_halves)] }
def SumsSlottedSaid : Prop := sumsSlottedRow.holds Tryd.pinned (OpenSpec.ofChange sumsSlottedSpec)

/-- ITS FALSE NEIGHBOUR: 'it returns false'. Refute it at one input. -/
def sumsSlottedWrong : ChangeSpec := { name := "sumsSlotted", fn := fun _ => fun
  | [d1, d2, d3] => { results := [.lit (.bool false)], args := [d1, d2, d3] }
  | _ => none }
def SumsSlottedWrongFalsely : Prop := sumsSlottedRow.holds Tryd.pinned (OpenSpec.ofChange sumsSlottedWrong)

/-- 'turnoutlaw02.SumsSums': WHATEVER THE INPUT: true; the input reads as it did. -/
def sumsSumsSpec : ChangeSpec := { name := "sumsSums", fn := fun _ => fun
  | [d1, d2, d3] => { results := [.lit (.bool true)], args := [d1, d2, d3] }
  | _ => none }
def sumsSumsRow : OpenClaim := { program := "ytmjbccjelnhhiaadoor", sum := "ae8301cac6557f4e9d12957ba69bfb14253c33b896e7f66c924cecf9c45aa3bb", func := "turnout/turnoutlaw02.SumsSums", spec := "sumsSums", named := ["turnout/sums.halves"], apart := false, laid := [("turnout/sums.halves", laid_turnout_sums_halves)] }
def SumsSumsSaid : Prop := sumsSumsRow.holds Tryd.pinned (OpenSpec.ofChange sumsSumsSpec)

/-- ITS FALSE NEIGHBOUR: 'it returns false'. Refute it at one input. -/
def sumsSumsWrong : ChangeSpec := { name := "sumsSums", fn := fun _ => fun
  | [d1, d2, d3] => { results := [.lit (.bool false)], args := [d1, d2, d3] }
  | _ => none }
def SumsSumsWrongFalsely : Prop := sumsSumsRow.holds Tryd.pinned (OpenSpec.ofChange sumsSumsWrong)

/-- 'turnoutlaw02.SumsOnes': WHATEVER THE INPUT: true; the input reads as it did. -/
def sumsOnesSpec : ChangeSpec := { name := "sumsOnes", fn := fun _ => fun
  | [d1, d2] => { results := [.lit (.bool true)], args := [d1, d2] }
  | _ => none }
def sumsOnesRow : OpenClaim := { program := "ytmjbccjelnhhiaadoor", sum := "ae8301cac6557f4e9d12957ba69bfb14253c33b896e7f66c924cecf9c45aa3bb", func := "turnout/turnoutlaw02.SumsOnes", spec := "sumsOnes", named := ["turnout/sums.halves"], apart := false, laid := [("turnout/sums.halves", laid_turnout_sums_halves)] }
def SumsOnesSaid : Prop := sumsOnesRow.holds Tryd.pinned (OpenSpec.ofChange sumsOnesSpec)

/-- ITS FALSE NEIGHBOUR: 'it returns false'. Refute it at one input. -/
def sumsOnesWrong : ChangeSpec := { name := "sumsOnes", fn := fun _ => fun
  | [d1, d2] => { results := [.lit (.bool false)], args := [d1, d2] }
  | _ => none }
def SumsOnesWrongFalsely : Prop := sumsOnesRow.holds Tryd.pinned (OpenSpec.ofChange sumsOnesWrong)

/-- 'turnoutlaw02.SumsPatched': WHATEVER THE INPUT: true; the input reads as it did. -/
def sumsPatchedSpec : ChangeSpec := { name := "sumsPatched", fn := fun _ => fun
  | [d1, d2] => { results := [.lit (.bool true)], args := [d1, d2] }
  | _ => none }
def sumsPatchedRow : OpenClaim := { program := "ytmjbccjelnhhiaadoor", sum := "ae8301cac6557f4e9d12957ba69bfb14253c33b896e7f66c924cecf9c45aa3bb", func := "turnout/turnoutlaw02.SumsPatched", spec := "sumsPatched", named := ["turnout/sums.halves"], apart := false, laid := [("turnout/sums.halves", laid_turnout_sums_halves)] }
def SumsPatchedSaid : Prop := sumsPatchedRow.holds Tryd.pinned (OpenSpec.ofChange sumsPatchedSpec)

/-- ITS FALSE NEIGHBOUR: 'it returns false'. Refute it at one input. -/
def sumsPatchedWrong : ChangeSpec := { name := "sumsPatched", fn := fun _ => fun
  | [d1, d2] => { results := [.lit (.bool false)], args := [d1, d2] }
  | _ => none }
def SumsPatchedWrongFalsely : Prop := sumsPatchedRow.holds Tryd.pinned (OpenSpec.ofChange sumsPatchedWrong)

/-- 'turnoutlaw02.SumsFours': WHATEVER THE INPUT: true; the input reads as it did. -/
def sumsFoursSpec : ChangeSpec := { name := "sumsFours", fn := fun _ => fun
  | [d1, d2, d3] => { results := [.lit (.bool true)], args := [d1, d2, d3] }
  | _ => none }
def sumsFoursRow : OpenClaim := { program := "ytmjbccjelnhhiaadoor", sum := "ae8301cac6557f4e9d12957ba69bfb14253c33b896e7f66c924cecf9c45aa3bb", func := "turnout/turnoutlaw02.SumsFours", spec := "sumsFours", unfollowed := true, recurses := true, named := ["turnout/sums.halves"], apart := false, laid := [("turnout/sums.halves", laid_turnout_sums_halves)] }
def SumsFoursSaid : Prop := sumsFoursRow.holds Tryd.pinned (OpenSpec.ofChange sumsFoursSpec)

/-- ITS FALSE NEIGHBOUR: 'it returns false'. Refute it at one input. -/
def sumsFoursWrong : ChangeSpec := { name := "sumsFours", fn := fun _ => fun
  | [d1, d2, d3] => { results := [.lit (.bool false)], args := [d1, d2, d3] }
  | _ => none }
def SumsFoursWrongFalsely : Prop := sumsFoursRow.holds Tryd.pinned (OpenSpec.ofChange sumsFoursWrong)

/-- 'turnoutlaw02.SumsJoins': WHATEVER THE INPUT: true; the input reads as it did. -/
def sumsJoinsSpec : ChangeSpec := { name := "sumsJoins", fn := fun _ => fun
  | [d1, d2, d3] => { results := [.lit (.bool true)], args := [d1, d2, d3] }
  | _ => none }
def sumsJoinsRow : OpenClaim := { program := "ytmjbccjelnhhiaadoor", sum := "ae8301cac6557f4e9d12957ba69bfb14253c33b896e7f66c924cecf9c45aa3bb", func := "turnout/turnoutlaw02.SumsJoins", spec := "sumsJoins", unfollowed := true, recurses := true, named := ["turnout/sums.halves"], apart := false, laid := [("turnout/sums.halves", laid_turnout_sums_halves)] }
def SumsJoinsSaid : Prop := sumsJoinsRow.holds Tryd.pinned (OpenSpec.ofChange sumsJoinsSpec)

/-- ITS FALSE NEIGHBOUR: 'it returns false'. Refute it at one input. -/
def sumsJoinsWrong : ChangeSpec := { name := "sumsJoins", fn := fun _ => fun
  | [d1, d2, d3] => { results := [.lit (.bool false)], args := [d1, d2, d3] }
  | _ => none }
def SumsJoinsWrongFalsely : Prop := sumsJoinsRow.holds Tryd.pinned (OpenSpec.ofChange sumsJoinsWrong)

/-- 'turnoutlaw02.SumsJoined': WHATEVER THE INPUT: true; the input reads as it did. -/
def sumsJoinedSpec : ChangeSpec := { name := "sumsJoined", fn := fun _ => fun
  | [d1, d2, d3] => { results := [.lit (.bool true)], args := [d1, d2, d3] }
  | _ => none }
def sumsJoinedRow : OpenClaim := { program := "ytmjbccjelnhhiaadoor", sum := "ae8301cac6557f4e9d12957ba69bfb14253c33b896e7f66c924cecf9c45aa3bb", func := "turnout/turnoutlaw02.SumsJoined", spec := "sumsJoined", unfollowed := true, recurses := true, named := ["turnout/sums.halves"], apart := false, laid := [("turnout/sums.halves", laid_turnout_sums_halves)] }
def SumsJoinedSaid : Prop := sumsJoinedRow.holds Tryd.pinned (OpenSpec.ofChange sumsJoinedSpec)

/-- ITS FALSE NEIGHBOUR: 'it returns false'. Refute it at one input. -/
def sumsJoinedWrong : ChangeSpec := { name := "sumsJoined", fn := fun _ => fun
  | [d1, d2, d3] => { results := [.lit (.bool false)], args := [d1, d2, d3] }
  | _ => none }
def SumsJoinedWrongFalsely : Prop := sumsJoinedRow.holds Tryd.pinned (OpenSpec.ofChange sumsJoinedWrong)

/- THE SECOND FORM. 'bulk': how many values and letters a reading holds, each counted each time it is reached (what is shared counts as often as it is met; a slice's spare places count too). A statement '..UptoSaid' is the law's where the arguments, and the package variables that the reading takes, are together of bulk at most 1048576: NARROWER than '..Said'. Prove '..Said' where nothing that the law and all that it calls make is longer than what came in: it says more and counts as full. Else prove '..UptoSaid'. A law counts once. -/
mutual
def uptoBulk {H : Type} : DataW H → Nat
  | .lit (.string bytes) => bytes.length + 1
  | .lit _ => 1
  | .nil => 1
  | .ptr d => uptoBulk d + 1
  | .slice elems spare => uptoBulkAll elems + uptoBulkAll spare + 1
  | .agg parts => uptoBulkAll parts + 1
  | .iface _ d => uptoBulk d + 1
  | .map entries => uptoBulkEntries entries + 1
  | .held _ => 1
def uptoBulkAll {H : Type} : List (DataW H) → Nat
  | [] => 0
  | d :: r => uptoBulk d + uptoBulkAll r
def uptoBulkEntries {H : Type} : List (Lit × DataW H) → Nat
  | [] => 0
  | x :: r => uptoBulkEntry x + uptoBulkEntries r
def uptoBulkEntry {H : Type} : Lit × DataW H → Nat
  | (.string bytes, d) => bytes.length + uptoBulk d + 1
  | (_, d) => uptoBulk d + 1
 end
def uptoSmall : (H : Type) → List (DataW H) → Bool := fun _ ds => decide (uptoBulkAll ds ≤ 1048576)
def OpenSpec.upto (s : _root_.Go.ChangeSpec) : _root_.Go.OpenSpec := { _root_.Go.OpenSpec.ofChange s with cond := some uptoSmall }

/-- 'turnoutlaw02.SumsSpreads', WHERE WHAT IT READS IS OF BULK AT MOST 1048576: true; the input reads as it did. -/
def sumsSpreadsUptoRow : OpenClaim := { program := "ytmjbccjelnhhiaadoor", sum := "ae8301cac6557f4e9d12957ba69bfb14253c33b896e7f66c924cecf9c45aa3bb", func := "turnout/turnoutlaw02.SumsSpreads", spec := "sumsSpreads", named := ["turnout/sums.halves"], apart := false, laid := [("turnout/sums.halves", laid_turnout_sums_halves)], narrowed := true }
def SumsSpreadsUptoSaid : Prop := sumsSpreadsUptoRow.holds Tryd.pinned (OpenSpec.upto sumsSpreadsSpec)

/-- 'turnoutlaw02.SumsApart', WHERE WHAT IT READS IS OF BULK AT MOST 1048576: true; the input reads as it did. -/
def sumsApartUptoRow : OpenClaim := { program := "ytmjbccjelnhhiaadoor", sum := "ae8301cac6557f4e9d12957ba69bfb14253c33b896e7f66c924cecf9c45aa3bb", func := "turnout/turnoutlaw02.SumsApart", spec := "sumsApart", named := ["turnout/sums.halves"], apart := false, laid := [("turnout/sums.halves", laid_turnout_sums_halves)], narrowed := true }
def SumsApartUptoSaid : Prop := sumsApartUptoRow.holds Tryd.pinned (OpenSpec.upto sumsApartSpec)

/-- 'turnoutlaw02.SumsSlotted', WHERE WHAT IT READS IS OF BULK AT MOST 1048576: true; the input reads as it did. -/
def sumsSlottedUptoRow : OpenClaim := { program := "ytmjbccjelnhhiaadoor", sum := "ae8301cac6557f4e9d12957ba69bfb14253c33b896e7f66c924cecf9c45aa3bb", func := "turnout/turnoutlaw02.SumsSlotted", spec := "sumsSlotted", named := ["turnout/sums.halves"], apart := false, laid := [("turnout/sums.halves", laid_turnout_sums_halves)], narrowed := true }
def SumsSlottedUptoSaid : Prop := sumsSlottedUptoRow.holds Tryd.pinned (OpenSpec.upto sumsSlottedSpec)

/-- 'turnoutlaw02.SumsSums', WHERE WHAT IT READS IS OF BULK AT MOST 1048576: true; the input reads as it did. -/
def sumsSumsUptoRow : OpenClaim := { program := "ytmjbccjelnhhiaadoor", sum := "ae8301cac6557f4e9d12957ba69bfb14253c33b896e7f66c924cecf9c45aa3bb", func := "turnout/turnoutlaw02.SumsSums", spec := "sumsSums", named := ["turnout/sums.halves"], apart := false, laid := [("turnout/sums.halves", laid_turnout_sums_halves)], narrowed := true }
def SumsSumsUptoSaid : Prop := sumsSumsUptoRow.holds Tryd.pinned (OpenSpec.upto sumsSumsSpec)

/-- 'turnoutlaw02.SumsOnes', WHERE WHAT IT READS IS OF BULK AT MOST 1048576: true; the input reads as it did. -/
def sumsOnesUptoRow : OpenClaim := { program := "ytmjbccjelnhhiaadoor", sum := "ae8301cac6557f4e9d12957ba69bfb14253c33b896e7f66c924cecf9c45aa3bb", func := "turnout/turnoutlaw02.SumsOnes", spec := "sumsOnes", named := ["turnout/sums.halves"], apart := false, laid := [("turnout/sums.halves", laid_turnout_sums_halves)], narrowed := true }
def SumsOnesUptoSaid : Prop := sumsOnesUptoRow.holds Tryd.pinned (OpenSpec.upto sumsOnesSpec)

/-- 'turnoutlaw02.SumsPatched', WHERE WHAT IT READS IS OF BULK AT MOST 1048576: true; the input reads as it did. -/
def sumsPatchedUptoRow : OpenClaim := { program := "ytmjbccjelnhhiaadoor", sum := "ae8301cac6557f4e9d12957ba69bfb14253c33b896e7f66c924cecf9c45aa3bb", func := "turnout/turnoutlaw02.SumsPatched", spec := "sumsPatched", named := ["turnout/sums.halves"], apart := false, laid := [("turnout/sums.halves", laid_turnout_sums_halves)], narrowed := true }
def SumsPatchedUptoSaid : Prop := sumsPatchedUptoRow.holds Tryd.pinned (OpenSpec.upto sumsPatchedSpec)

/-- 'turnoutlaw02.SumsFours', WHERE WHAT IT READS IS OF BULK AT MOST 1048576: true; the input reads as it did. -/
def sumsFoursUptoRow : OpenClaim := { program := "ytmjbccjelnhhiaadoor", sum := "ae8301cac6557f4e9d12957ba69bfb14253c33b896e7f66c924cecf9c45aa3bb", func := "turnout/turnoutlaw02.SumsFours", spec := "sumsFours", unfollowed := true, recurses := true, named := ["turnout/sums.halves"], apart := false, laid := [("turnout/sums.halves", laid_turnout_sums_halves)], narrowed := true }
def SumsFoursUptoSaid : Prop := sumsFoursUptoRow.holds Tryd.pinned (OpenSpec.upto sumsFoursSpec)

/-- 'turnoutlaw02.SumsJoins', WHERE WHAT IT READS IS OF BULK AT MOST 1048576: true; the input reads as it did. -/
def sumsJoinsUptoRow : OpenClaim := { program := "ytmjbccjelnhhiaadoor", sum := "ae8301cac6557f4e9d12957ba69bfb14253c33b896e7f66c924cecf9c45aa3bb", func := "turnout/turnoutlaw02.SumsJoins", spec := "sumsJoins", unfollowed := true, recurses := true, named := ["turnout/sums.halves"], apart := false, laid := [("turnout/sums.halves", laid_turnout_sums_halves)], narrowed := true }
def SumsJoinsUptoSaid : Prop := sumsJoinsUptoRow.holds Tryd.pinned (OpenSpec.upto sumsJoinsSpec)

/-- 'turnoutlaw02.SumsJoined', WHERE WHAT IT READS IS OF BULK AT MOST 1048576: true; the input reads as it did. -/
def sumsJoinedUptoRow : OpenClaim := { program := "ytmjbccjelnhhiaadoor", sum := "ae8301cac6557f4e9d12957ba69bfb14253c33b896e7f66c924cecf9c45aa3bb", func := "turnout/turnoutlaw02.SumsJoined", spec := "sumsJoined", unfollowed := true, recurses := true, named := ["turnout/sums.halves"], apart := false, laid := [("turnout/sums.halves", laid_turnout_sums_halves)], narrowed := true }
def SumsJoinedUptoSaid : Prop := sumsJoinedUptoRow.holds Tryd.pinned (OpenSpec.upto sumsJoinedSpec)

end Rows
end Go.Proofs.YtmjbccjelnhhiaaDoor
