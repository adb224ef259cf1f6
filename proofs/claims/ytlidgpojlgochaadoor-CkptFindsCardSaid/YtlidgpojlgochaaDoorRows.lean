/-
  NARROWER THAN 'FOR EVERY INPUT', by the rows' own cells (each row's printed sentence says how): CkptLays: laid · CkptNil: laid · CkptCrash: laid · CkptLong: laid · CkptAny: laid · CkptFinds: laid.
  DERIVED. THE GIVEN ROWS OF THIS SEAT. 6 by the template 'for every input the law returns true; each argument reads behind the call as it read before'; 0 by the template 'total and deterministic' (their statements: YtlidgpojlgochaaDoorTotals.lean).
  GIVEN WITH THE SEED: the statements are not yours to turn. If you find one false, say at which input.
  Laid BY PROGRAM, IN A SANDBOX (cutbox-rows.mjs): the forced cells as the released guide's own fill.sh prints them over the translation cb0b2004a260d413… (all of the seat's roots in one cut). By AI agents, Wed Nov 11 2026. No macro, syntax, notation, axiom, sorry.
-/
import Derived.Test.YtlidgpojlgochaaDoorChecked
import GoSem.Claim
import GoSem.ClaimJoined
import GoSem.ClaimMapViews
import Derived.JoinedTies
import Derived.KernelRfl
namespace Go.Proofs.YtlidgpojlgochaaDoor
/- THE CELL 'sum', in the pinned program and in every row, IS THE sha256 OF THE DUMP (.gsa) THAT YtlidgpojlgochaaDoorProg.lean LOADS. Nothing in Lean hashes anything: it is a label: what it is worth is what the hold of that sum in a sandbox is worth. -/
noncomputable def Tryd.pinned : Pinned := { name := "ytlidgpojlgochaadoor", sum := "cb0b2004a260d41369b2fe1851d3cc36769314ebc6782fa244fc91cbbcfbb618", checked := Tryd.checked }
namespace Rows
def none {H : Type} : Left H := { results := [], args := [] }

/- WHAT THE LISTED PACKAGE-LEVEL VARIABLES READ AS WHEN THE CALL BEGINS. Each datum BY PROGRAM (the guide's laid-datum.mjs) off the statement by which the dump's own 'gosem.cut.vars' lays the variable. In a bare row this is a premise. The card (YtlidgpojlgochaaDoorCards.lean) ties it to the program's text. -/
def laid_turnout_sums_halves {H : Type} : DataW H := .agg [.lit (.int .u32 0), .lit (.int .u32 498536548), .lit (.int .u32 997073096), .lit (.int .u32 651767980), .lit (.int .u32 1994146192), .lit (.int .u32 1802195444), .lit (.int .u32 1303535960), .lit (.int .u32 1342533948), .lit (.int .u32 3988292384), .lit (.int .u32 4027552580), .lit (.int .u32 3604390888), .lit (.int .u32 3412177804), .lit (.int .u32 2607071920), .lit (.int .u32 2262029012), .lit (.int .u32 2685067896), .lit (.int .u32 3183342108)]

/-- 'turnoutlaw20.CkptLays': WHATEVER THE INPUT: true; the input reads as it did. -/
def ckptLaysSpec : ChangeSpec := { name := "ckptLays", fn := fun _ => fun
  | [d1, d2, d3, d4] => { results := [.lit (.bool true)], args := [d1, d2, d3, d4] }
  | _ => none }
def ckptLaysRow : OpenClaim := { program := "ytlidgpojlgochaadoor", sum := "cb0b2004a260d41369b2fe1851d3cc36769314ebc6782fa244fc91cbbcfbb618", func := "turnout/turnoutlaw20.CkptLays", spec := "ckptLays", unfollowed := true, recurses := true, named := ["turnout/sums.halves"], apart := false, laid := [("turnout/sums.halves", laid_turnout_sums_halves)] }
def CkptLaysSaid : Prop := ckptLaysRow.holds Tryd.pinned (OpenSpec.ofChange ckptLaysSpec)

/-- ITS FALSE NEIGHBOUR: 'it returns false'. Refute it at one input. -/
def ckptLaysWrong : ChangeSpec := { name := "ckptLays", fn := fun _ => fun
  | [d1, d2, d3, d4] => { results := [.lit (.bool false)], args := [d1, d2, d3, d4] }
  | _ => none }
def CkptLaysWrongFalsely : Prop := ckptLaysRow.holds Tryd.pinned (OpenSpec.ofChange ckptLaysWrong)

/-- 'turnoutlaw20.CkptNil': WHATEVER THE INPUT: true; the input reads as it did. -/
def ckptNilSpec : ChangeSpec := { name := "ckptNil", fn := fun _ => fun
  | [d1, d2] => { results := [.lit (.bool true)], args := [d1, d2] }
  | _ => none }
def ckptNilRow : OpenClaim := { program := "ytlidgpojlgochaadoor", sum := "cb0b2004a260d41369b2fe1851d3cc36769314ebc6782fa244fc91cbbcfbb618", func := "turnout/turnoutlaw20.CkptNil", spec := "ckptNil", unfollowed := true, recurses := true, named := ["turnout/sums.halves"], apart := false, laid := [("turnout/sums.halves", laid_turnout_sums_halves)] }
def CkptNilSaid : Prop := ckptNilRow.holds Tryd.pinned (OpenSpec.ofChange ckptNilSpec)

/-- ITS FALSE NEIGHBOUR: 'it returns false'. Refute it at one input. -/
def ckptNilWrong : ChangeSpec := { name := "ckptNil", fn := fun _ => fun
  | [d1, d2] => { results := [.lit (.bool false)], args := [d1, d2] }
  | _ => none }
def CkptNilWrongFalsely : Prop := ckptNilRow.holds Tryd.pinned (OpenSpec.ofChange ckptNilWrong)

/-- 'turnoutlaw20.CkptCrash': WHATEVER THE INPUT: true; the input reads as it did. -/
def ckptCrashSpec : ChangeSpec := { name := "ckptCrash", fn := fun _ => fun
  | [d1, d2, d3] => { results := [.lit (.bool true)], args := [d1, d2, d3] }
  | _ => none }
def ckptCrashRow : OpenClaim := { program := "ytlidgpojlgochaadoor", sum := "cb0b2004a260d41369b2fe1851d3cc36769314ebc6782fa244fc91cbbcfbb618", func := "turnout/turnoutlaw20.CkptCrash", spec := "ckptCrash", unfollowed := true, recurses := true, named := ["turnout/sums.halves"], apart := false, laid := [("turnout/sums.halves", laid_turnout_sums_halves)] }
def CkptCrashSaid : Prop := ckptCrashRow.holds Tryd.pinned (OpenSpec.ofChange ckptCrashSpec)

/-- ITS FALSE NEIGHBOUR: 'it returns false'. Refute it at one input. -/
def ckptCrashWrong : ChangeSpec := { name := "ckptCrash", fn := fun _ => fun
  | [d1, d2, d3] => { results := [.lit (.bool false)], args := [d1, d2, d3] }
  | _ => none }
def CkptCrashWrongFalsely : Prop := ckptCrashRow.holds Tryd.pinned (OpenSpec.ofChange ckptCrashWrong)

/-- 'turnoutlaw20.CkptLong': WHATEVER THE INPUT: true; the input reads as it did. -/
def ckptLongSpec : ChangeSpec := { name := "ckptLong", fn := fun _ => fun
  | [d1, d2, d3] => { results := [.lit (.bool true)], args := [d1, d2, d3] }
  | _ => none }
def ckptLongRow : OpenClaim := { program := "ytlidgpojlgochaadoor", sum := "cb0b2004a260d41369b2fe1851d3cc36769314ebc6782fa244fc91cbbcfbb618", func := "turnout/turnoutlaw20.CkptLong", spec := "ckptLong", unfollowed := true, recurses := true, named := ["turnout/sums.halves"], apart := false, laid := [("turnout/sums.halves", laid_turnout_sums_halves)] }
def CkptLongSaid : Prop := ckptLongRow.holds Tryd.pinned (OpenSpec.ofChange ckptLongSpec)

/-- ITS FALSE NEIGHBOUR: 'it returns false'. Refute it at one input. -/
def ckptLongWrong : ChangeSpec := { name := "ckptLong", fn := fun _ => fun
  | [d1, d2, d3] => { results := [.lit (.bool false)], args := [d1, d2, d3] }
  | _ => none }
def CkptLongWrongFalsely : Prop := ckptLongRow.holds Tryd.pinned (OpenSpec.ofChange ckptLongWrong)

/-- 'turnoutlaw20.CkptAny': WHATEVER THE INPUT: true; the input reads as it did. -/
def ckptAnySpec : ChangeSpec := { name := "ckptAny", fn := fun _ => fun
  | [d] => { results := [.lit (.bool true)], args := [d] }
  | _ => none }
def ckptAnyRow : OpenClaim := { program := "ytlidgpojlgochaadoor", sum := "cb0b2004a260d41369b2fe1851d3cc36769314ebc6782fa244fc91cbbcfbb618", func := "turnout/turnoutlaw20.CkptAny", spec := "ckptAny", unfollowed := true, recurses := true, named := ["turnout/sums.halves"], apart := false, laid := [("turnout/sums.halves", laid_turnout_sums_halves)] }
def CkptAnySaid : Prop := ckptAnyRow.holds Tryd.pinned (OpenSpec.ofChange ckptAnySpec)

/-- ITS FALSE NEIGHBOUR: 'it returns false'. Refute it at one input. -/
def ckptAnyWrong : ChangeSpec := { name := "ckptAny", fn := fun _ => fun
  | [d] => { results := [.lit (.bool false)], args := [d] }
  | _ => none }
def CkptAnyWrongFalsely : Prop := ckptAnyRow.holds Tryd.pinned (OpenSpec.ofChange ckptAnyWrong)

/-- 'turnoutlaw20.CkptFinds': WHATEVER THE INPUT: true; the input reads as it did. -/
def ckptFindsSpec : ChangeSpec := { name := "ckptFinds", fn := fun _ => fun
  | [d] => { results := [.lit (.bool true)], args := [d] }
  | _ => none }
def ckptFindsRow : OpenClaim := { program := "ytlidgpojlgochaadoor", sum := "cb0b2004a260d41369b2fe1851d3cc36769314ebc6782fa244fc91cbbcfbb618", func := "turnout/turnoutlaw20.CkptFinds", spec := "ckptFinds", unfollowed := true, recurses := true, named := ["turnout/sums.halves"], apart := false, laid := [("turnout/sums.halves", laid_turnout_sums_halves)] }
def CkptFindsSaid : Prop := ckptFindsRow.holds Tryd.pinned (OpenSpec.ofChange ckptFindsSpec)

/-- ITS FALSE NEIGHBOUR: 'it returns false'. Refute it at one input. -/
def ckptFindsWrong : ChangeSpec := { name := "ckptFinds", fn := fun _ => fun
  | [d] => { results := [.lit (.bool false)], args := [d] }
  | _ => none }
def CkptFindsWrongFalsely : Prop := ckptFindsRow.holds Tryd.pinned (OpenSpec.ofChange ckptFindsWrong)

/- THE SECOND FORM. 'bulk': how many values and letters a reading holds, each counted each time it is reached (what is shared counts as often as it is met; a slice's spare places count too). A statement '..UptoSaid' is the law's where the arguments, and the package variables that the reading takes, are together of bulk at most 1048576: NARROWER than '..Said'. Prove '..Said' where nothing that the law and all that it calls make is longer than what came in: it says more and counts as full. Else prove '..UptoSaid'. A law counts once. -/
mutual
def uptoBulk {H : Type} : DataW H → Nat
  | .lit (.string bytes) => bytes.length + 1
  | .lit _ => 1
  | .nil => 1
  | .ptr d => uptoBulk d + 1
  | .slice elems spare => uptoBulkAll elems + uptoBulkAll spare + 1
  | .agg parts => uptoBulkAll parts + 1
  | .iface _ d => uptoBulk d + 1
  | .map entries => uptoBulkEntries entries + 1
  | .held _ => 1
def uptoBulkAll {H : Type} : List (DataW H) → Nat
  | [] => 0
  | d :: r => uptoBulk d + uptoBulkAll r
def uptoBulkEntries {H : Type} : List (Lit × DataW H) → Nat
  | [] => 0
  | x :: r => uptoBulkEntry x + uptoBulkEntries r
def uptoBulkEntry {H : Type} : Lit × DataW H → Nat
  | (.string bytes, d) => bytes.length + uptoBulk d + 1
  | (_, d) => uptoBulk d + 1
 end
def uptoSmall : (H : Type) → List (DataW H) → Bool := fun _ ds => decide (uptoBulkAll ds ≤ 1048576)
def OpenSpec.upto (s : _root_.Go.ChangeSpec) : _root_.Go.OpenSpec := { _root_.Go.OpenSpec.ofChange s with cond := some uptoSmall }

/-- 'turnoutlaw20.CkptLays', WHERE WHAT IT READS IS OF BULK AT MOST 1048576: true; the input reads as it did. -/
def ckptLaysUptoRow : OpenClaim := { program := "ytlidgpojlgochaadoor", sum := "cb0b2004a260d41369b2fe1851d3cc36769314ebc6782fa244fc91cbbcfbb618", func := "turnout/turnoutlaw20.CkptLays", spec := "ckptLays", unfollowed := true, recurses := true, named := ["turnout/sums.halves"], apart := false, laid := [("turnout/sums.halves", laid_turnout_sums_halves)], narrowed := true }
def CkptLaysUptoSaid : Prop := ckptLaysUptoRow.holds Tryd.pinned (OpenSpec.upto ckptLaysSpec)

/-- 'turnoutlaw20.CkptNil', WHERE WHAT IT READS IS OF BULK AT MOST 1048576: true; the input reads as it did. -/
def ckptNilUptoRow : OpenClaim := { program := "ytlidgpojlgochaadoor", sum := "cb0b2004a260d41369b2fe1851d3cc36769314ebc6782fa244fc91cbbcfbb618", func := "turnout/turnoutlaw20.CkptNil", spec := "ckptNil", unfollowed := true, recurses := true, named := ["turnout/sums.halves"], apart := false, laid := [("turnout/sums.halves", laid_turnout_sums_halves)], narrowed := true }
def CkptNilUptoSaid : Prop := ckptNilUptoRow.holds Tryd.pinned (OpenSpec.upto ckptNilSpec)

/-- 'turnoutlaw20.CkptCrash', WHERE WHAT IT READS IS OF BULK AT MOST 1048576: true; the input reads as it did. -/
def ckptCrashUptoRow : OpenClaim := { program := "ytlidgpojlgochaadoor", sum := "cb0b2004a260d41369b2fe1851d3cc36769314ebc6782fa244fc91cbbcfbb618", func := "turnout/turnoutlaw20.CkptCrash", spec := "ckptCrash", unfollowed := true, recurses := true, named := ["turnout/sums.halves"], apart := false, laid := [("turnout/sums.halves", laid_turnout_sums_halves)], narrowed := true }
def CkptCrashUptoSaid : Prop := ckptCrashUptoRow.holds Tryd.pinned (OpenSpec.upto ckptCrashSpec)

/-- 'turnoutlaw20.CkptLong', WHERE WHAT IT READS IS OF BULK AT MOST 1048576: true; the input reads as it did. -/
def ckptLongUptoRow : OpenClaim := { program := "ytlidgpojlgochaadoor", sum := "cb0b2004a260d41369b2fe1851d3cc36769314ebc6782fa244fc91cbbcfbb618", func := "turnout/turnoutlaw20.CkptLong", spec := "ckptLong", unfollowed := true, recurses := true, named := ["turnout/sums.halves"], apart := false, laid := [("turnout/sums.halves", laid_turnout_sums_halves)], narrowed := true }
def CkptLongUptoSaid : Prop := ckptLongUptoRow.holds Tryd.pinned (OpenSpec.upto ckptLongSpec)

/-- 'turnoutlaw20.CkptAny', WHERE WHAT IT READS IS OF BULK AT MOST 1048576: true; the input reads as it did. -/
def ckptAnyUptoRow : OpenClaim := { program := "ytlidgpojlgochaadoor", sum := "cb0b2004a260d41369b2fe1851d3cc36769314ebc6782fa244fc91cbbcfbb618", func := "turnout/turnoutlaw20.CkptAny", spec := "ckptAny", unfollowed := true, recurses := true, named := ["turnout/sums.halves"], apart := false, laid := [("turnout/sums.halves", laid_turnout_sums_halves)], narrowed := true }
def CkptAnyUptoSaid : Prop := ckptAnyUptoRow.holds Tryd.pinned (OpenSpec.upto ckptAnySpec)

/-- 'turnoutlaw20.CkptFinds', WHERE WHAT IT READS IS OF BULK AT MOST 1048576: true; the input reads as it did. -/
def ckptFindsUptoRow : OpenClaim := { program := "ytlidgpojlgochaadoor", sum := "cb0b2004a260d41369b2fe1851d3cc36769314ebc6782fa244fc91cbbcfbb618", func := "turnout/turnoutlaw20.CkptFinds", spec := "ckptFinds", unfollowed := true, recurses := true, named := ["turnout/sums.halves"], apart := false, laid := [("turnout/sums.halves", laid_turnout_sums_halves)], narrowed := true }
def CkptFindsUptoSaid : Prop := ckptFindsUptoRow.holds Tryd.pinned (OpenSpec.upto ckptFindsSpec)

end Rows
end Go.Proofs.YtlidgpojlgochaaDoor
