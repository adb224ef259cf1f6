/- From the walks to the rows: what all of the checkpoints' seat share. -/
import Derived.Test.YtlidgpojlgochaaGreatDoorCards
import Derived.Test.YtlidgpojlgochaaGreatDoorTie
import Derived.Lib.LaidTab
import Derived.Test.YtlidgpojlgochaaGreatDoorVcS
import Derived.Test.YtlidgpojlgochaaGreatDoorS9ZCkJ
set_option maxRecDepth 10000
namespace Go.Vc
open Go Go.Proofs Go.ChangeShapes Go.WideShapes Go.ChangeAt Go.RowKit Go.Proofs.YtlidgpojlgochaaGreatDoor

theorem own : ownKnob Tryz.prog.godebug = none := by kernel_rfl
theorem laidOut : laidOutB Tryz.prog = true := by kernel_rfl
theorem gTab : Tryz.prog.globalNamed "turnout/sums.halves" = some 0 := by kernel_rfl
theorem gTabType : (Tryz.prog.globals[0]?).map (·.type) = some 150 := by kernel_rfl
theorem uTab : Tryz.prog.underlying 150 = some (.array 16 99) := by kernel_rfl
theorem uElem : Tryz.prog.underlying 99 = some (.int .u32) := by kernel_rfl
theorem cElem : Tryz.prog.cellsOf 99 = 1 := by kernel_rfl
theorem cTab : Tryz.prog.cellsOf 150 = 16 := by kernel_rfl

/-- What the row's list gives: the table lies there. -/
theorem table {W : World} (h : laidMetH Tryz.prog Rows.ckptPlaysRow.laid W) : Halves W.heap := by
  have ht : Lib.TabIs Tryz.prog W "turnout/sums.halves" .u32 halves := Lib.tabIs_of_head (rest := []) gTab gTabType uTab uElem cElem cTab h
  refine cellsAt_iff.2 fun j hj => ?_
  have := ht.cell gTab j (by simpa using hj)
  rw [Nat.zero_add]
  have hj' : j < halves.length := by simpa using hj
  rw [List.getElem_map]
  refine (show W.cell? _ = _ from this).trans ?_
  simp [List.getD, List.getElem?_eq_getElem hj']

/-- A world for the witness. -/
noncomputable def laidWorld (os : Os) : World :=
  { World.holding Tryz.prog os ⟨#[], #[], []⟩ with heap := (World.holding Tryz.prog os ⟨#[], #[], []⟩).heap.modify 0 fun
      | .cells _ t frozen => .cells (halves.map (Value.int .u32)).toArray t frozen
      | o => o }

theorem laid_met (os : Os) (args : Array Value) : laidMet Tryz.prog Rows.ckptPlaysRow.laid ((laidWorld os).forCall (fun _ _ => 0) ⟨#[], args, []⟩).memory :=
  laidMet_of_run' 8 (by kernel_rfl) (by kernel_rfl)

theorem undBool : Tryz.prog.underlying 4 = some .bool := by kernel_rfl
theorem undInt : Tryz.prog.underlying 3 = some (.int .i64) := by kernel_rfl
theorem undStr : Tryz.prog.underlying 9 = some .string := by kernel_rfl
theorem undU8 : Tryz.prog.underlying 5 = some (.int .u8) := by kernel_rfl
theorem undU32 : Tryz.prog.underlying 99 = some (.int .u32) := by kernel_rfl
theorem undU64 : Tryz.prog.underlying 35 = some (.int .u64) := by kernel_rfl
theorem cHead : Tryz.prog.cellsOf 39 = 5 := by kernel_rfl
theorem cLay : Tryz.prog.cellsOf 37 = 2 := by kernel_rfl
theorem c1IntH : Tryz.prog.cellsOf 3 = 1 := by kernel_rfl
theorem c1U64H : Tryz.prog.cellsOf 35 = 1 := by kernel_rfl
theorem fieldsHead : fieldsOf Tryz.prog 39 = [3, 35, 35, 37].zip (List.range [3, 35, 35, 37].length) := by kernel_rfl
theorem fieldsLay : fieldsOf Tryz.prog 37 = [3, 3].zip (List.range [3, 3].length) := by kernel_rfl
theorem undHead : ∃ fs, Tryz.prog.underlying 39 = some (.struct fs) := by
  have : (match Tryz.prog.underlying 39 with | some (.struct _) => true | _ => false) = true := by kernel_rfl
  split at this
  · rename_i fs h; exact ⟨fs, h⟩
  · cases this

section
variable {H : Type} {enc : TypeId × Value → H} {W : World} {sp : Nat → Bool} {held : Bool} {base : Nat}

/-- The parts of a struct, as data, of whatever length. -/
theorem trod_partsG {P : Program} {e : TypeId} {L : List TypeId} {n : Nat} {cs : List Value} {y : DataW H × List MemPlace} (hT : fieldsOf P e = L.zip (List.range L.length)) (hL : L ≠ [])
    (h : DataW.trod enc P W base sp held n e cs = some y) :
    ∃ m parts, y.1 = .agg parts ∧ ∀ (i : Nat) (t : TypeId), L[i]? = some t → ∃ yi, DataW.trod enc P W base sp held m t ((cs.drop i).take (P.cellsOf t)) = some yi ∧ parts[i]? = some yi.1 := by
  have hu : ∃ fs : Array Field, P.underlying e = some (.struct fs) ∧ (fs.toList.map fun f => (f.type, f.offset)) = L.zip (List.range L.length) := by
    unfold fieldsOf at hT
    split at hT
    · rename_i fs hu; exact ⟨fs, hu, hT⟩
    · exfalso
      have := congrArg List.length hT
      simp at this
      exact hL (List.eq_nil_of_length_eq_zero this.symm)
  obtain ⟨fs, hu, hfs⟩ := hu
  obtain ⟨xs, m, _, hy, _, hxl, hf⟩ := DataW.trod_struct hu h
  refine ⟨m, xs.map (·.1), by rw [hy], fun i t hi => ?_⟩
  have hil := (List.getElem?_eq_some_iff.1 hi).1
  have hfl : fs.size = L.length := by have := congrArg List.length hfs; simpa using this
  have hfi : fs[i]? = some (fs[i]'(by omega)) := Array.getElem?_eq_getElem (by omega)
  have h1 := hf i _ hfi
  have h2 : ((fs[i]'(by omega)).type, (fs[i]'(by omega)).offset) = (t, i) := by
    have := congrArg (fun l : List (TypeId × Nat) => l[i]?) hfs
    simp only [List.getElem?_map, Array.getElem?_toList, hfi, Option.map_some] at this
    rw [(List.getElem?_zip_eq_some (z := (t, i))).2 ⟨hi, by rw [List.getElem?_range hil]⟩] at this
    exact Option.some.inj this
  obtain ⟨h3, h4⟩ := Prod.mk.inj h2
  rw [h3, h4, List.getElem?_eq_getElem (by omega)] at h1
  exact ⟨_, h1, by rw [List.getElem?_map, List.getElem?_eq_getElem (by omega)]; rfl⟩


theorem hd_in {n : Nat} {cs : List Value} {y : DataW H × List MemPlace} (hl : cs.length = 5) (h : DataW.trod enc Tryz.prog W base sp held n 39 cs = some y) : ∃ f : Hd, cs = hdV f ∧ f.Ok := by
  match cs, hl with
  | [v0, v1, v2, v3, v4], _ =>
  obtain ⟨m, parts, hy, hm⟩ := trod_partsG (L := [3, 35, 35, 37]) fieldsHead (by simp) h
  obtain ⟨y0, t0, _⟩ := hm 0 _ rfl
  obtain ⟨y1, t1, _⟩ := hm 1 _ rfl
  obtain ⟨y2, t2, _⟩ := hm 2 _ rfl
  obtain ⟨y3, t3, _⟩ := hm 3 _ rfl
  rw [c1IntH] at t0
  rw [c1U64H] at t1 t2
  rw [cLay] at t3
  obtain ⟨n0, e0, _, w0⟩ := DataW.trod_int undInt t0
  obtain ⟨n1, e1, _, w1⟩ := DataW.trod_int undU64 t1
  obtain ⟨n2, e2, _, w2⟩ := DataW.trod_int undU64 t2
  obtain ⟨m5, hm5⟩ := trod_fields (L := [3, 3]) fieldsLay (by simp) (by intro t ht; simp at ht; subst ht; kernel_rfl) t3 rfl
  obtain ⟨u5, z5, h5, t5⟩ := hm5 0 _ rfl
  obtain ⟨u6, z6, h6, t6⟩ := hm5 1 _ rfl
  obtain ⟨n5, e5, _, w5⟩ := DataW.trod_int undInt t5
  obtain ⟨n6, e6, _, w6⟩ := DataW.trod_int undInt t6
  simp at e0 e1 e2 e5 e6 h5 h6
  subst e0 e1 e2 h5 h6 e5 e6
  have w1 := u64_wf w1
  have w2 := u64_wf w2
  obtain ⟨k1, rfl⟩ := Int.eq_ofNat_of_zero_le w1.1
  obtain ⟨k2, rfl⟩ := Int.eq_ofNat_of_zero_le w2.1
  exact ⟨⟨n0, k1, k2, n5, n6⟩, rfl, ⟨(i64_wf w0).1, (i64_wf w0).2, by show k1 < _; omega, by show k2 < _; omega, (i64_wf w5).1, (i64_wf w5).2, (i64_wf w6).1, (i64_wf w6).2⟩⟩

theorem hd_arg {v : Value} {d : DataW H} {ps : List MemPlace} {r : Reach} {b0 : Nat} (hval : Value.okWide Tryz.prog W r b0 39 v) (hd : DataW.Trod enc Tryz.prog W 0 sp true 39 v d ps) : ∃ f : Hd, v = .agg (hdV f).toArray ∧ f.Ok := by
  obtain ⟨fs, hu⟩ := undHead
  obtain ⟨cs, rfl, hc⟩ := okWide_struct hu hval
  rw [cHead] at hc
  obtain ⟨fuel, hf⟩ := hd
  obtain ⟨f, hfv, ok⟩ := hd_in (cs := cs.toList) (by simpa using hc) hf
  exact ⟨f, by rw [← hfv, Array.toArray_toList], ok⟩

end

theorem u64_in {P : Program} {H : Type} {enc : TypeId × Value → H} {W : World} {sp : Nat → Bool} {t : TypeId} (ht : P.underlying t = some (.int .u64)) {v : Value} {d : DataW H} {ps : List MemPlace} {r : Reach} {b0 : Nat}
    (hval : Value.okWide P W r b0 t v) (hd : DataW.Trod enc P W 0 sp true t v d ps) : ∃ n : Nat, v = vU n ∧ n < 18446744073709551616 := by
  obtain ⟨n, rfl, _, _, hw⟩ := open_int ht hval hd
  have h2 : (IntKind.u64.min ≤ n ∧ n ≤ IntKind.u64.max) := by simpa [Lit.wf] using hw
  have h3 : 0 ≤ n ∧ n ≤ 18446744073709551615 := h2
  obtain ⟨k, rfl⟩ := Int.eq_ofNat_of_zero_le h3.1
  exact ⟨k, rfl, by omega⟩

/-- A contract's end. -/
theorem ends {H : Type} {enc : TypeId × Value → H} {f : FuncId} {fn : Func} {s : ChangeSpec} {W : World} {args : Array Value} {ds gs : List (DataW H)} {before : List MemPlace}
    (hvars : s.vars = []) (hres : fn.resultTypes = #[4]) (hts : (fn.params.toList.all fun t => Tryz.prog.readableRec t && decide (t < Tryz.prog.types.size)) = true)
    (hspec : s.fn H (ds ++ gs) = { results := [.lit (.bool true)], args := ds })
    (hW : DataW.Whole enc Tryz.prog fn.params.toList s.vars false W args.toList ds gs before)
    (hc : CallsH Tryz.prog f args W.heap (RetX (.bool true) W.heap)) :
    Calls Tryz.prog f args W fun e W' => ∃ v, e = .returned v ∧ s.post enc Tryz.prog fn false true false false W args v W' := by
  refine (hc W rfl).mono fun e W' ⟨_, hr, he, hx⟩ => ⟨_, he, ?_⟩
  refine post_true laidOut hvars hres undBool (fun t ht => ?_) hspec hW (below_of hr hx)
  have := List.all_eq_true.1 hts t ht
  simp only [Bool.and_eq_true, decide_eq_true_eq] at this
  exact this

end Go.Vc
