/- From the walks to the rows: what all of the frames' seat share. -/
import Derived.Test.YtomdlmjibojcoaaDoorCards
import Derived.Test.YtomdlmjibojcoaaDoorTie
import Derived.Lib.LaidTab
import Derived.Test.YtomdlmjibojcoaaDoorVcS
import Derived.Test.YtomdlmjibojcoaaDoorS5FrG
set_option maxRecDepth 10000
namespace Go.Vc
open Go Go.Proofs Go.ChangeShapes Go.WideShapes Go.ChangeAt Go.RowKit Go.Proofs.YtomdlmjibojcoaaDoor

theorem own : ownKnob Tryd.prog.godebug = none := by kernel_rfl
theorem laidOut : laidOutB Tryd.prog = true := by kernel_rfl
theorem gTab : Tryd.prog.globalNamed "turnout/sums.halves" = some 0 := by kernel_rfl
theorem gTabType : (Tryd.prog.globals[0]?).map (·.type) = some 83 := by kernel_rfl
theorem uTab : Tryd.prog.underlying 83 = some (.array 16 36) := by kernel_rfl
theorem uElem : Tryd.prog.underlying 36 = some (.int .u32) := by kernel_rfl
theorem cElem : Tryd.prog.cellsOf 36 = 1 := by kernel_rfl
theorem cTab : Tryd.prog.cellsOf 83 = 16 := by kernel_rfl

/-- What the row's list gives: the table lies there. -/
theorem table {W : World} (h : laidMetH Tryd.prog Rows.frameNilRow.laid W) : Halves W.heap := by
  have ht : Lib.TabIs Tryd.prog W "turnout/sums.halves" .u32 halves := Lib.tabIs_of_head (rest := []) gTab gTabType uTab uElem cElem cTab h
  refine cellsAt_iff.2 fun j hj => ?_
  have := ht.cell gTab j (by simpa using hj)
  rw [Nat.zero_add]
  have hj' : j < halves.length := by simpa using hj
  rw [List.getElem_map]
  refine (show W.cell? _ = _ from this).trans ?_
  simp [List.getD, List.getElem?_eq_getElem hj']

/-- A world for the witness. -/
noncomputable def laidWorld (os : Os) : World :=
  { World.holding Tryd.prog os ⟨#[], #[], []⟩ with heap := (World.holding Tryd.prog os ⟨#[], #[], []⟩).heap.modify 0 fun
      | .cells _ t frozen => .cells (halves.map (Value.int .u32)).toArray t frozen
      | o => o }

theorem laid_met (os : Os) (args : Array Value) : laidMet Tryd.prog Rows.frameNilRow.laid ((laidWorld os).forCall (fun _ _ => 0) ⟨#[], args, []⟩).memory :=
  laidMet_of_run' 8 (by kernel_rfl) (by kernel_rfl)

theorem undBool : Tryd.prog.underlying 4 = some .bool := by kernel_rfl
theorem undInt : Tryd.prog.underlying 3 = some (.int .i64) := by kernel_rfl
theorem undStr : Tryd.prog.underlying 9 = some .string := by kernel_rfl
theorem undU8 : Tryd.prog.underlying 5 = some (.int .u8) := by kernel_rfl
theorem undU32 : Tryd.prog.underlying 36 = some (.int .u32) := by kernel_rfl
theorem undU64 : Tryd.prog.underlying 22 = some (.int .u64) := by kernel_rfl
theorem cFrame : Tryd.prog.cellsOf 24 = 4 := by kernel_rfl
theorem undFrame : ∃ fs, Tryd.prog.underlying 24 = some (.struct fs) := by
  have : (match Tryd.prog.underlying 24 with | some (.struct _) => true | _ => false) = true := by kernel_rfl
  split at this
  · rename_i fs h; exact ⟨fs, h⟩
  · cases this

section
variable {H : Type} {enc : TypeId × Value → H} {W : World} {sp : Nat → Bool} {held : Bool} {base : Nat}

theorem frm_in {n : Nat} {cs : List Value} {y : DataW H × List MemPlace} (hl : cs.length = 4) (h : DataW.trod enc Tryd.prog W base sp held n 24 cs = some y) : ∃ f : Frm, cs = frmV f ∧ f.Ok := by
  obtain ⟨m, hm⟩ := trod_fields (L := [3, 22, 3, 9]) (by kernel_rfl) (by simp) (by intro t ht; simp at ht; rcases ht with rfl | rfl | rfl | rfl <;> kernel_rfl) h hl
  obtain ⟨v0, y0, h0, t0⟩ := hm 0 _ rfl
  obtain ⟨v1, y1, h1, t1⟩ := hm 1 _ rfl
  obtain ⟨v2, y2, h2, t2⟩ := hm 2 _ rfl
  obtain ⟨v3, y3, h3, t3⟩ := hm 3 _ rfl
  obtain ⟨n0, e0, _, w0⟩ := DataW.trod_int undInt t0
  obtain ⟨n1, e1, _, w1⟩ := DataW.trod_int undU64 t1
  obtain ⟨n2, e2, _, w2⟩ := DataW.trod_int undInt t2
  obtain ⟨s3, e3, _, w3⟩ := DataW.trod_string undStr t3
  simp at e0 e1 e2 e3
  subst e0 e1 e2 e3
  have w1 := u64_wf w1
  obtain ⟨k, rfl⟩ := Int.eq_ofNat_of_zero_le w1.1
  refine ⟨⟨n0, k, n2, s3⟩, ?_, ⟨(i64_wf w0).1, (i64_wf w0).2, by show k < _; omega, (i64_wf w2).1, (i64_wf w2).2, w3⟩⟩
  match cs, hl with
  | [a, b, c, d], _ =>
    simp at h0 h1 h2 h3
    subst h0 h1 h2 h3
    rfl

theorem frm_arg {v : Value} {d : DataW H} {ps : List MemPlace} {r : Reach} {b0 : Nat} (hval : Value.okWide Tryd.prog W r b0 24 v) (hd : DataW.Trod enc Tryd.prog W 0 sp true 24 v d ps) : ∃ f : Frm, v = .agg (frmV f).toArray ∧ f.Ok := by
  obtain ⟨fs, hu⟩ := undFrame
  obtain ⟨cs, rfl, hc⟩ := okWide_struct hu hval
  rw [cFrame] at hc
  obtain ⟨fuel, hf⟩ := hd
  obtain ⟨f, hfv, ok⟩ := frm_in (cs := cs.toList) (by simpa using hc) hf
  exact ⟨f, by rw [← hfv, Array.toArray_toList], ok⟩

end

/-- A contract's end. -/
theorem ends {H : Type} {enc : TypeId × Value → H} {f : FuncId} {fn : Func} {s : ChangeSpec} {W : World} {args : Array Value} {ds gs : List (DataW H)} {before : List MemPlace}
    (hvars : s.vars = []) (hres : fn.resultTypes = #[4]) (hts : (fn.params.toList.all fun t => Tryd.prog.readableRec t && decide (t < Tryd.prog.types.size)) = true)
    (hspec : s.fn H (ds ++ gs) = { results := [.lit (.bool true)], args := ds })
    (hW : DataW.Whole enc Tryd.prog fn.params.toList s.vars false W args.toList ds gs before)
    (hc : CallsH Tryd.prog f args W.heap (RetX (.bool true) W.heap)) :
    Calls Tryd.prog f args W fun e W' => ∃ v, e = .returned v ∧ s.post enc Tryd.prog fn false true false false W args v W' := by
  refine (hc W rfl).mono fun e W' ⟨_, hr, he, hx⟩ => ⟨_, he, ?_⟩
  refine post_true laidOut hvars hres undBool (fun t ht => ?_) hspec hW (below_of hr hx)
  have := List.all_eq_true.1 hts t ht
  simp only [Bool.and_eq_true, decide_eq_true_eq] at this
  exact this

end Go.Vc
