/- From the walks to the rows: what all of the log's seat share. -/
import Derived.Test.YthkbecpgbjejkaaDoorCards
import Derived.Test.YthkbecpgbjejkaaDoorTie
import Derived.Lib.LaidTab
import Derived.Stop.LaidTwo
import Derived.Stop.ErrReads
import Derived.Test.YthkbecpgbjejkaaDoorVcS
import Derived.Test.YthkbecpgbjejkaaDoorS9WWlS
set_option maxRecDepth 10000
namespace Go.Vc
open Go Go.Proofs Go.ChangeShapes Go.WideShapes Go.ChangeAt Go.RowKit Go.Proofs.YthkbecpgbjejkaaDoor

theorem own : ownKnob Tryd.prog.godebug = none := by kernel_rfl
theorem laidOut : laidOutB Tryd.prog = true := by kernel_rfl
theorem gTab : Tryd.prog.globalNamed "turnout/sums.halves" = some 2 := by kernel_rfl
theorem gTabType : (Tryd.prog.globals[2]?).map (·.type) = some 159 := by kernel_rfl
theorem uTab : Tryd.prog.underlying 159 = some (.array 16 148) := by kernel_rfl
theorem uElem : Tryd.prog.underlying 148 = some (.int .u32) := by kernel_rfl
theorem cElem : Tryd.prog.cellsOf 148 = 1 := by kernel_rfl
theorem cTab : Tryd.prog.cellsOf 159 = 16 := by kernel_rfl

/-- What the row's list gives: the table lies there. -/
theorem table {W : World} (h : laidMetH Tryd.prog Rows.walNilRow.laid W) : Halves W.heap := by
  have ht : Lib.TabIs Tryd.prog W "turnout/sums.halves" .u32 halves := Lib.tabIs_of_head (rest := [_, _]) gTab gTabType uTab uElem cElem cTab h
  refine cellsAt_iff.2 fun j hj => ?_
  have := ht.cell gTab j (by simpa using hj)
  rw [Nat.zero_add]
  have hj' : j < halves.length := by simpa using hj
  rw [List.getElem_map]
  refine (show W.cell? _ = _ from this).trans ?_
  simp [List.getD, List.getElem?_eq_getElem hj']

theorem gE0 : Tryd.prog.globalNamed "turnout/wal.errShort" = some 0 := by kernel_rfl
theorem gE1 : Tryd.prog.globalNamed "turnout/wal.errOrder" = some 1 := by kernel_rfl
theorem gE0t : (Tryd.prog.globals[0]?).map (·.type) = some 98 := by kernel_rfl
theorem gE1t : (Tryd.prog.globals[1]?).map (·.type) = some 98 := by kernel_rfl
theorem starE : "*" ++ "errors.errorString" = "*errors.errorString" := by decide
theorem rowE (u : TypeId) (h : Tryd.prog.typeName? 3 u = some "*errors.errorString") : u = 162 :=
  typeName_ptr_named (nm := "errors.errorString") (by rw [starE]; kernel_rfl) (by kernel_rfl) (by decide) u (by rw [starE]; exact h)
theorem uESt : ∃ f : Field, Tryd.prog.underlying 177 = some (.struct #[f]) ∧ f.type = 9 ∧ f.offset = 0 := by
  have : (match Tryd.prog.underlying 177 with | some (.struct fs) => (match fs.toList with | [f] => Nat.beq f.type 9 && Nat.beq f.offset 0 | _ => false) | _ => false) = true := by kernel_rfl
  split at this
  · rename_i fs hu
    split at this
    · rename_i f hf
      simp only [Bool.and_eq_true, Nat.beq_eq] at this
      refine ⟨f, ?_, this.1, this.2⟩
      rw [hu, ← Array.toArray_toList (xs := fs), hf]
    · cases this
  · cases this
theorem cESt : Tryd.prog.cellsOf 177 = 1 := by kernel_rfl
theorem cStrE : Tryd.prog.cellsOf 9 = 1 := by kernel_rfl
theorem uStrE : Tryd.prog.underlying 9 = some .string := by kernel_rfl

theorem laid_tail {P : Program} {x : String × DataW Unit} {r : List (String × DataW Unit)} {W : World} (h : laidMet P (x :: r) W) : laidMet P r W := by
  obtain ⟨ps, ⟨g, t, cs, fu, p, q, _, _, _, _, hr, rfl⟩, hn, hp⟩ := h
  exact ⟨q, hr, (List.nodup_append.1 hn).2.1, fun b off hm => hp b off (List.mem_append_right _ hm)⟩

/-- What the row's list gives: the two errors lie there. -/
theorem errs {W : World} (h : laidMetH Tryd.prog Rows.walNilRow.laid W) : ∃ a0 a1, Errs W.heap a0 a1 := by
  obtain ⟨ms, hi⟩ := uErr
  obtain ⟨f, he, hf, ho⟩ := uESt
  have h1 : laidMet Tryd.prog [("turnout/wal.errShort", Rows.laid_turnout_wal_errShort), ("turnout/wal.errOrder", Rows.laid_turnout_wal_errOrder)] W := laid_tail (show laidMet Tryd.prog [("turnout/sums.halves", Rows.laid_turnout_sums_halves), ("turnout/wal.errShort", Rows.laid_turnout_wal_errShort), ("turnout/wal.errOrder", Rows.laid_turnout_wal_errOrder)] W from h)
  obtain ⟨a0, a1, s0, s1, c0, c1, t0, t1, v0, v1, _, _, _, _, _, _, _, b0, b1⟩ := laid_sentinels2 h1 gE0 gE0t gE1 gE1t hi rowE uPErr he hf ho uStrE cESt cStrE
  obtain ⟨ps, ⟨g0, _, cs0, _, p0, q0, hg0, _, hv0, _, ⟨g1, _, cs1, _, p1, q1, hg1, _, hv1, _, _, e1⟩, e0⟩, _, hrows⟩ := h1
  obtain rfl := Option.some.inj (gE0.symm.trans hg0)
  obtain rfl := Option.some.inj (gE1.symm.trans hg1)
  have k : ∀ (n : String) (g : Nat) (cs : Array Value), Tryd.prog.globalNamed n = some g → W.var? Tryd.prog n = some cs → (∃ c t, W.heap[g]? = some (.cells c t (0, 0))) → ∃ t, W.heap[g]? = some (.cells cs t (0, 0)) := by
    intro n g cs hn hv ⟨c, t, hc⟩
    unfold World.var? at hv
    rw [hn, Option.bind_some, hc] at hv
    cases hv
    exact ⟨t, hc⟩
  have z0 : cs0.size = 1 := by rw [v0] at hv0; cases hv0; rfl
  have z1 : cs1.size = 1 := by rw [v1] at hv1; cases hv1; rfl
  refine ⟨a0, a1, k _ _ _ gE0 v0 ?_, k _ _ _ gE1 v1 ?_, ⟨c0, t0, b0⟩, ⟨c1, t1, b1⟩⟩
  · exact (hrows 0 0 (by subst e0; rw [z0]; simp [MemPlace.row])).1
  · exact (hrows 1 0 (by subst e0; subst e1; rw [z1]; simp [MemPlace.row])).1

/-- A world for the witness. -/
noncomputable def laidWorld (os : Os) : World :=
  { World.holding Tryd.prog os ⟨#[], #[], []⟩ with heap :=
      let g := ((World.holding Tryd.prog os ⟨#[], #[], []⟩).heap.modify 2 fun
        | .cells _ t frozen => .cells (halves.map (Value.int .u32)).toArray t frozen
        | o => o)
      let n := g.size
      let g := g.modify 0 fun
        | .cells _ t frozen => .cells #[errV ⟨n, 0, none⟩] t frozen
        | o => o
      let g := g.modify 1 fun
        | .cells _ t frozen => .cells #[errV ⟨n + 1, 0, none⟩] t frozen
        | o => o
      (g.push (.cells #[.string ⟨#[119, 97, 108, 58, 32, 97, 32, 112, 105, 101, 99, 101, 32, 116, 104, 97, 116, 32, 105, 115, 32, 110, 111, 116, 32, 119, 104, 111, 108, 101]⟩] 177)).push (.cells #[.string ⟨#[119, 97, 108, 58, 32, 97, 32, 112, 105, 101, 99, 101, 32, 116, 104, 97, 116, 32, 99, 97, 110, 39, 116, 32, 115, 116, 97, 110, 100, 32, 116, 104, 101, 114, 101]⟩] 177) }

theorem laid_met (os : Os) (args : Array Value) : laidMet Tryd.prog Rows.walNilRow.laid ((laidWorld os).forCall (fun _ _ => 0) ⟨#[], args, []⟩).memory :=
  laidMet_of_run' 8 (by kernel_rfl) (by kernel_rfl)

theorem undBool : Tryd.prog.underlying 4 = some .bool := by kernel_rfl
theorem undInt : Tryd.prog.underlying 3 = some (.int .i64) := by kernel_rfl
theorem undStr : Tryd.prog.underlying 9 = some .string := by kernel_rfl
theorem undU8 : Tryd.prog.underlying 5 = some (.int .u8) := by kernel_rfl
theorem undU32 : Tryd.prog.underlying 148 = some (.int .u32) := by kernel_rfl
theorem undU64 : Tryd.prog.underlying 22 = some (.int .u64) := by kernel_rfl
theorem c1IntH : Tryd.prog.cellsOf 3 = 1 := by kernel_rfl
theorem c1U64H : Tryd.prog.cellsOf 22 = 1 := by kernel_rfl
theorem c1BoolH : Tryd.prog.cellsOf 4 = 1 := by kernel_rfl
theorem c1StrH : Tryd.prog.cellsOf 9 = 1 := by kernel_rfl
theorem undFates : Tryd.prog.underlying 73 = some (.slice 113) := by kernel_rfl
theorem cFate : Tryd.prog.cellsOf 113 = 2 := by kernel_rfl
theorem c1FatesH : Tryd.prog.cellsOf 73 = 1 := by kernel_rfl

theorem rows_of {α : Type} {f : α → List Value} {Q : α → Prop} : ∀ {rows : List (List Value)}, (∀ r ∈ rows, ∃ a, r = f a ∧ Q a) → ∃ l : List α, rows = l.map f ∧ ∀ a ∈ l, Q a := by
  intro rows
  induction rows with
  | nil => exact fun _ => ⟨[], rfl, by simp⟩
  | cons r rs ih =>
    intro h
    obtain ⟨a, rfl, ha⟩ := h r (by simp)
    obtain ⟨l, rfl, hl⟩ := ih fun r hr => h r (by simp [hr])
    exact ⟨a :: l, rfl, by simpa using ⟨ha, hl⟩⟩

section
variable {H : Type} {enc : TypeId × Value → H} {W : World} {sp : Nat → Bool} {held : Bool} {base : Nat}

/-- The parts of a struct, as data, wherever they lie. -/
theorem trod_partsO {P : Program} {e : TypeId} {L : List (TypeId × Nat)} {n : Nat} {cs : List Value} {y : DataW H × List MemPlace} (hT : fieldsOf P e = L) (hL : L ≠ [])
    (h : DataW.trod enc P W base sp held n e cs = some y) :
    ∃ m parts, y.1 = .agg parts ∧ ∀ (i : Nat) (t : TypeId) (o : Nat), L[i]? = some (t, o) → ∃ yi, DataW.trod enc P W base sp held m t ((cs.drop o).take (P.cellsOf t)) = some yi ∧ parts[i]? = some yi.1 := by
  have hu : ∃ fs : Array Field, P.underlying e = some (.struct fs) ∧ (fs.toList.map fun f => (f.type, f.offset)) = L := by
    unfold fieldsOf at hT
    split at hT
    · rename_i fs hu; exact ⟨fs, hu, hT⟩
    · exact (hL hT.symm).elim
  obtain ⟨fs, hu, hfs⟩ := hu
  obtain ⟨xs, m, _, hy, _, hxl, hf⟩ := DataW.trod_struct hu h
  refine ⟨m, xs.map (·.1), by rw [hy], fun i t o hi => ?_⟩
  have hil := (List.getElem?_eq_some_iff.1 hi).1
  have hfl : fs.size = L.length := by have := congrArg List.length hfs; simpa using this
  have hfi : fs[i]? = some (fs[i]'(by omega)) := Array.getElem?_eq_getElem (by omega)
  have h1 := hf i _ hfi
  have h2 : ((fs[i]'(by omega)).type, (fs[i]'(by omega)).offset) = (t, o) := by
    have := congrArg (fun l : List (TypeId × Nat) => l[i]?) hfs
    simp only [List.getElem?_map, Array.getElem?_toList, hfi, Option.map_some] at this
    rw [hi] at this
    exact Option.some.inj this
  obtain ⟨h3, h4⟩ := Prod.mk.inj h2
  rw [h3, h4, List.getElem?_eq_getElem (by omega)] at h1
  exact ⟨_, h1, by rw [List.getElem?_map, List.getElem?_eq_getElem (by omega)]; rfl⟩

theorem fate_in {n : Nat} {cs : List Value} {y : DataW H × List MemPlace} (hl : cs.length = 2) (h : DataW.trod enc Tryd.prog W base sp held n 113 cs = some y) : ∃ f : Int × Int, cs = fateV f ∧ True := by
  obtain ⟨m, hm⟩ := trod_fields (L := [3, 3]) (by kernel_rfl) (by simp) (by intro t ht; simp at ht; subst ht; kernel_rfl) h hl
  obtain ⟨v0, y0, h0, t0⟩ := hm 0 _ rfl
  obtain ⟨v1, y1, h1, t1⟩ := hm 1 _ rfl
  obtain ⟨n0, e0, _, w0⟩ := DataW.trod_int undInt t0
  obtain ⟨n1, e1, _, w1⟩ := DataW.trod_int undInt t1
  simp at e0 e1
  subst e0 e1
  refine ⟨(n0, n1), ?_, trivial⟩
  match cs, hl with
  | [a, b], _ =>
    simp at h0 h1
    subst h0 h1
    rfl

end

theorem u64_in {P : Program} {H : Type} {enc : TypeId × Value → H} {W : World} {sp : Nat → Bool} {t : TypeId} (ht : P.underlying t = some (.int .u64)) {v : Value} {d : DataW H} {ps : List MemPlace} {r : Reach} {b0 : Nat}
    (hval : Value.okWide P W r b0 t v) (hd : DataW.Trod enc P W 0 sp true t v d ps) : ∃ n : Nat, v = vU n ∧ n < 18446744073709551616 := by
  obtain ⟨n, rfl, _, _, hw⟩ := open_int ht hval hd
  have h2 : (IntKind.u64.min ≤ n ∧ n ≤ IntKind.u64.max) := by simpa [Lit.wf] using hw
  have h3 : 0 ≤ n ∧ n ≤ 18446744073709551615 := h2
  obtain ⟨k, rfl⟩ := Int.eq_ofNat_of_zero_le h3.1
  exact ⟨k, rfl, by omega⟩

/-- A contract's end. -/
theorem ends {H : Type} {enc : TypeId × Value → H} {f : FuncId} {fn : Func} {s : ChangeSpec} {W : World} {args : Array Value} {ds gs : List (DataW H)} {before : List MemPlace}
    (hvars : s.vars = []) (hres : fn.resultTypes = #[4]) (hts : (fn.params.toList.all fun t => Tryd.prog.readableRec t && decide (t < Tryd.prog.types.size)) = true)
    (hspec : s.fn H (ds ++ gs) = { results := [.lit (.bool true)], args := ds })
    (hW : DataW.Whole enc Tryd.prog fn.params.toList s.vars false W args.toList ds gs before)
    (hc : CallsH Tryd.prog f args W.heap (RetX (.bool true) W.heap)) :
    Calls Tryd.prog f args W fun e W' => ∃ v, e = .returned v ∧ s.post enc Tryd.prog fn false true false false W args v W' := by
  refine (hc W rfl).mono fun e W' ⟨_, hr, he, hx⟩ => ⟨_, he, ?_⟩
  refine post_true laidOut hvars hres undBool (fun t ht => ?_) hspec hW (below_of hr hx)
  have := List.all_eq_true.1 hts t ht
  simp only [Bool.and_eq_true, decide_eq_true_eq] at this
  exact this

end Go.Vc
