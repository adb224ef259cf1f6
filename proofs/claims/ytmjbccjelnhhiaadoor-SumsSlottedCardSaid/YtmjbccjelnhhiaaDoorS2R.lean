/- From the walks to the rows: what all nine share. -/
import Derived.Test.YtmjbccjelnhhiaaDoorCards
import Derived.Test.YtmjbccjelnhhiaaDoorTie
import Derived.Lib.LaidTab
import Derived.Test.YtmjbccjelnhhiaaDoorVcR
import Derived.Test.YtmjbccjelnhhiaaDoorS2C
set_option maxRecDepth 10000
namespace Go.Vc
open Go Go.Proofs Go.ChangeShapes Go.WideShapes Go.ChangeAt Go.RowKit Go.Proofs.YtmjbccjelnhhiaaDoor

theorem own : ownKnob Tryd.prog.godebug = none := by kernel_rfl
theorem laidOut : laidOutB Tryd.prog = true := by kernel_rfl
theorem gTab : Tryd.prog.globalNamed "turnout/sums.halves" = some 0 := by kernel_rfl

theorem gTabType : (Tryd.prog.globals[0]?).map (·.type) = some 68 := by kernel_rfl
theorem uTab : Tryd.prog.underlying 68 = some (.array 16 22) := by kernel_rfl
theorem uElem : Tryd.prog.underlying 22 = some (.int .u32) := by kernel_rfl
theorem cElem : Tryd.prog.cellsOf 22 = 1 := by kernel_rfl
theorem cTab : Tryd.prog.cellsOf 68 = 16 := by kernel_rfl

/-- What the row's list gives: the table lies there. -/
theorem table {W : World} (h : laidMetH Tryd.prog Rows.sumsSumsRow.laid W) : Halves W.heap := by
  have ht : Lib.TabIs Tryd.prog W "turnout/sums.halves" .u32 halves := Lib.tabIs_of_head (rest := []) gTab gTabType uTab uElem cElem cTab h
  refine cellsAt_iff.2 fun j hj => ?_
  have := ht.cell gTab j (by simpa using hj)
  rw [Nat.zero_add]
  have hj' : j < halves.length := by simpa using hj
  rw [List.getElem_map]
  refine (show W.cell? _ = _ from this).trans ?_
  simp [List.getD, List.getElem?_eq_getElem hj']

/-- A world for the witness. -/
noncomputable def laidWorld (os : Os) : World :=
  { World.holding Tryd.prog os ⟨#[], #[], []⟩ with heap := (World.holding Tryd.prog os ⟨#[], #[], []⟩).heap.modify 0 fun
      | .cells _ t frozen => .cells (halves.map (Value.int .u32)).toArray t frozen
      | o => o }

theorem laid_met (os : Os) (args : Array Value) : laidMet Tryd.prog Rows.sumsSumsRow.laid ((laidWorld os).forCall (fun _ _ => 0) ⟨#[], args, []⟩).memory :=
  laidMet_of_run' 8 (by kernel_rfl) (by kernel_rfl)

theorem und4 : Tryd.prog.underlying 4 = some .bool := by kernel_rfl
theorem und9 : Tryd.prog.underlying 9 = some .string := by kernel_rfl
theorem und23 : Tryd.prog.underlying 23 = some (.slice 9) := by kernel_rfl
theorem und22 : Tryd.prog.underlying 22 = some (.int .u32) := by kernel_rfl
theorem und40 : Tryd.prog.underlying 40 = some (.int .u16) := by kernel_rfl
theorem cells40 : Tryd.prog.cellsOf 40 = 1 := by kernel_rfl
theorem cells3 : Tryd.prog.cellsOf 3 = 1 := by kernel_rfl
theorem und3 : Tryd.prog.underlying 3 = some (.int .i64) := by kernel_rfl
theorem cells9 : Tryd.prog.cellsOf 9 = 1 := by kernel_rfl
theorem bytes9 : Tryd.prog.bytesOf 9 = 16 := by kernel_rfl

/-- A contract's end. -/
theorem ends {H : Type} {enc : TypeId × Value → H} {f : FuncId} {fn : Func} {s : ChangeSpec} {W : World} {args : Array Value} {ds gs : List (DataW H)} {before : List MemPlace}
    (hvars : s.vars = []) (hres : fn.resultTypes = #[4]) (hts : (fn.params.toList.all fun t => Tryd.prog.readableRec t && decide (t < Tryd.prog.types.size)) = true)
    (hspec : s.fn H (ds ++ gs) = { results := [.lit (.bool true)], args := ds })
    (hW : DataW.Whole enc Tryd.prog fn.params.toList s.vars false W args.toList ds gs before)
    (hc : CallsH Tryd.prog f args W.heap (RetX (.bool true) W.heap)) :
    Calls Tryd.prog f args W fun e W' => ∃ v, e = .returned v ∧ s.post enc Tryd.prog fn false true false false W args v W' := by
  refine (hc W rfl).mono fun e W' ⟨_, hr, he, hx⟩ => ⟨_, he, ?_⟩
  refine post_true laidOut hvars hres und4 (fun t ht => ?_) hspec hW (below_of hr hx)
  have := List.all_eq_true.1 hts t ht
  simp only [Bool.and_eq_true, decide_eq_true_eq] at this
  exact this

end Go.Vc
