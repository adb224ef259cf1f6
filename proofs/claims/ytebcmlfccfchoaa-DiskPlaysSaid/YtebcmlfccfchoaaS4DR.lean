/- From the walks to the rows: what all of the seat share. -/
import Derived.Test.YtebcmlfccfchoaaRows
import Derived.Test.YtebcmlfccfchoaaVcS
import Derived.Test.YtebcmlfccfchoaaS4DkC
set_option maxRecDepth 10000
namespace Go.Vc
open Go Go.Proofs Go.ChangeShapes Go.WideShapes Go.ChangeAt Go.RowKit Go.Proofs.Ytebcmlfccfchoaa

theorem own : ownKnob Try.prog.godebug = none := by kernel_rfl
theorem laidOut : laidOutB Try.prog = true := by kernel_rfl
theorem undBool : Try.prog.underlying 4 = some .bool := by kernel_rfl
theorem undInt : Try.prog.underlying 3 = some (.int .i64) := by kernel_rfl
theorem undStr : Try.prog.underlying 9 = some .string := by kernel_rfl
theorem undU8 : Try.prog.underlying 5 = some (.int .u8) := by kernel_rfl
theorem cInt : Try.prog.cellsOf 3 = 1 := by kernel_rfl
theorem cBool : Try.prog.cellsOf 4 = 1 := by kernel_rfl
theorem cStr : Try.prog.cellsOf 9 = 1 := by kernel_rfl
theorem cU8 : Try.prog.cellsOf 5 = 1 := by kernel_rfl

/-- A world for the witness. -/
noncomputable def plainWorld (os : Os) : World := World.holding Try.prog os ⟨#[], #[], []⟩

/-- A contract's end. -/
theorem ends {H : Type} {enc : TypeId × Value → H} {f : FuncId} {fn : Func} {s : ChangeSpec} {W : World} {args : Array Value} {ds gs : List (DataW H)} {before : List MemPlace}
    (hvars : s.vars = []) (hres : fn.resultTypes = #[4]) (hts : (fn.params.toList.all fun t => Try.prog.readableRec t && decide (t < Try.prog.types.size)) = true)
    (hspec : s.fn H (ds ++ gs) = { results := [.lit (.bool true)], args := ds })
    (hW : DataW.Whole enc Try.prog fn.params.toList s.vars false W args.toList ds gs before)
    (hc : CallsH Try.prog f args W.heap (RetX (.bool true) W.heap)) :
    Calls Try.prog f args W fun e W' => ∃ v, e = .returned v ∧ s.post enc Try.prog fn false true false false W args v W' := by
  refine (hc W rfl).mono fun e W' ⟨_, hr, he, hx⟩ => ⟨_, he, ?_⟩
  refine post_true laidOut hvars hres undBool (fun t ht => ?_) hspec hW (below_of hr hx)
  have := List.all_eq_true.1 hts t ht
  simp only [Bool.and_eq_true, decide_eq_true_eq] at this
  exact this

end Go.Vc
