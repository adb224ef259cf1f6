/- From the walks to the rows: things that are written and read, as arguments. -/
import Derived.Test.YtloieaoglpjffaaRows
import Derived.Test.YtloieaoglpjffaaVcR
import Derived.Test.YtloieaoglpjffaaVcS
import Derived.Test.YtloieaoglpjffaaS3PkE
set_option maxRecDepth 10000
namespace Go.Vc
open Go Go.Proofs Go.ChangeShapes Go.WideShapes Go.ChangeAt Go.RowKit Go.Proofs.Ytloieaoglpjffaa

theorem own : ownKnob Try.prog.godebug = none := by kernel_rfl
theorem laidOut : laidOutB Try.prog = true := by kernel_rfl
theorem undBool : Try.prog.underlying 4 = some .bool := by kernel_rfl
theorem undInt : Try.prog.underlying 3 = some (.int .i64) := by kernel_rfl
theorem undU64 : Try.prog.underlying 32 = some (.int .u64) := by kernel_rfl
theorem undStr : Try.prog.underlying 9 = some .string := by kernel_rfl
theorem undItems : Try.prog.underlying 22 = some (.slice 36) := by kernel_rfl
theorem undWants : Try.prog.underlying 38 = some (.slice 45) := by kernel_rfl
theorem cItem : Try.prog.cellsOf 36 = 7 := by kernel_rfl
theorem cWant : Try.prog.cellsOf 45 = 4 := by kernel_rfl
theorem cBits : Try.prog.cellsOf 34 = 2 := by kernel_rfl
theorem bItem : Try.prog.bytesOf 36 = 64 := by kernel_rfl
theorem bWant : Try.prog.bytesOf 45 = 32 := by kernel_rfl

/-- A world for the witness. -/
noncomputable def plainWorld (os : Os) : World := World.holding Try.prog os ⟨#[], #[], []⟩

/-- A contract's end. -/
theorem ends {H : Type} {enc : TypeId × Value → H} {f : FuncId} {fn : Func} {s : ChangeSpec} {W : World} {args : Array Value} {ds gs : List (DataW H)} {before : List MemPlace}
    (hvars : s.vars = []) (hres : fn.resultTypes = #[4]) (hts : (fn.params.toList.all fun t => Try.prog.readableRec t && decide (t < Try.prog.types.size)) = true)
    (hspec : s.fn H (ds ++ gs) = { results := [.lit (.bool true)], args := ds })
    (hW : DataW.Whole enc Try.prog fn.params.toList s.vars false W args.toList ds gs before)
    (hc : CallsH Try.prog f args W.heap (RetX (.bool true) W.heap)) :
    Calls Try.prog f args W fun e W' => ∃ v, e = .returned v ∧ s.post enc Try.prog fn false true false false W args v W' := by
  refine (hc W rfl).mono fun e W' ⟨_, hr, he, hx⟩ => ⟨_, he, ?_⟩
  refine post_true laidOut hvars hres undBool (fun t ht => ?_) hspec hW (below_of hr hx)
  have := List.all_eq_true.1 hts t ht
  simp only [Bool.and_eq_true, decide_eq_true_eq] at this
  exact this

section
variable {H : Type} {enc : TypeId × Value → H} {W : World} {sp : Nat → Bool} {held : Bool} {base : Nat}

/-- The parts of a struct, as data, of whatever length. -/
theorem trod_partsG {P : Program} {e : TypeId} {L : List TypeId} {n : Nat} {cs : List Value} {y : DataW H × List MemPlace} (hT : fieldsOf P e = L.zip (List.range L.length)) (hL : L ≠ [])
    (h : DataW.trod enc P W base sp held n e cs = some y) :
    ∃ m parts, y.1 = .agg parts ∧ ∀ (i : Nat) (t : TypeId), L[i]? = some t → ∃ yi, DataW.trod enc P W base sp held m t ((cs.drop i).take (P.cellsOf t)) = some yi ∧ parts[i]? = some yi.1 := by
  have hu : ∃ fs : Array Field, P.underlying e = some (.struct fs) ∧ (fs.toList.map fun f => (f.type, f.offset)) = L.zip (List.range L.length) := by
    unfold fieldsOf at hT
    split at hT
    · rename_i fs hu; exact ⟨fs, hu, hT⟩
    · exfalso
      have := congrArg List.length hT
      simp at this
      exact hL (List.eq_nil_of_length_eq_zero this.symm)
  obtain ⟨fs, hu, hfs⟩ := hu
  obtain ⟨xs, m, _, hy, _, hxl, hf⟩ := DataW.trod_struct hu h
  refine ⟨m, xs.map (·.1), by rw [hy], fun i t hi => ?_⟩
  have hil := (List.getElem?_eq_some_iff.1 hi).1
  have hfl : fs.size = L.length := by have := congrArg List.length hfs; simpa using this
  have hfi : fs[i]? = some (fs[i]'(by omega)) := Array.getElem?_eq_getElem (by omega)
  have h1 := hf i _ hfi
  have h2 : ((fs[i]'(by omega)).type, (fs[i]'(by omega)).offset) = (t, i) := by
    have := congrArg (fun l : List (TypeId × Nat) => l[i]?) hfs
    simp only [List.getElem?_map, Array.getElem?_toList, hfi, Option.map_some] at this
    rw [(List.getElem?_zip_eq_some (z := (t, i))).2 ⟨hi, by rw [List.getElem?_range hil]⟩] at this
    exact Option.some.inj this
  obtain ⟨h3, h4⟩ := Prod.mk.inj h2
  rw [h3, h4, List.getElem?_eq_getElem (by omega)] at h1
  exact ⟨_, h1, by rw [List.getElem?_map, List.getElem?_eq_getElem (by omega)]; rfl⟩

theorem fieldsItem : fieldsOf Try.prog 36 = [4, 3, 32, 3, 9, 34].zip (List.range [4, 3, 32, 3, 9, 34].length) := by kernel_rfl
theorem fieldsBits : fieldsOf Try.prog 34 = [32, 32].zip (List.range [32, 32].length) := by kernel_rfl
theorem fieldsWant : fieldsOf Try.prog 45 = [4, 3, 32, 3].zip (List.range [4, 3, 32, 3].length) := by kernel_rfl
theorem c1Bool : Try.prog.cellsOf 4 = 1 := by kernel_rfl
theorem c1Int : Try.prog.cellsOf 3 = 1 := by kernel_rfl
theorem c1U64 : Try.prog.cellsOf 32 = 1 := by kernel_rfl
theorem c1Str : Try.prog.cellsOf 9 = 1 := by kernel_rfl

theorem item_in {n : Nat} {cs : List Value} {y : DataW H × List MemPlace} (hl : cs.length = 7) (h : DataW.trod enc Try.prog W base sp held n 36 cs = some y) : ∃ i : It, cs = itV i ∧ (WOk Try.prog 36 y.1 → i.Ok) := by
  match cs, hl with
  | [v0, v1, v2, v3, v4, v5, v6], _ =>
  obtain ⟨m, parts, hy, hm⟩ := trod_partsG (L := [4, 3, 32, 3, 9, 34]) fieldsItem (by simp) h
  obtain ⟨y0, t0, _⟩ := hm 0 _ rfl
  obtain ⟨y1, t1, _⟩ := hm 1 _ rfl
  obtain ⟨y2, t2, _⟩ := hm 2 _ rfl
  obtain ⟨y3, t3, _⟩ := hm 3 _ rfl
  obtain ⟨y4, t4, d4⟩ := hm 4 _ rfl
  obtain ⟨y5, t5, _⟩ := hm 5 _ rfl
  rw [c1Bool] at t0
  rw [c1Int] at t1 t3
  rw [c1U64] at t2
  rw [c1Str] at t4
  rw [cBits] at t5
  obtain ⟨b0, e0, _⟩ := DataW.trod_bool undBool t0
  obtain ⟨n1, e1, _, w1⟩ := DataW.trod_int undInt t1
  obtain ⟨n2, e2, _, w2⟩ := DataW.trod_int undU64 t2
  obtain ⟨n3, e3, _, w3⟩ := DataW.trod_int undInt t3
  obtain ⟨s4, e4, dd4, _⟩ := DataW.trod_string undStr t4
  obtain ⟨m5, hm5⟩ := trod_fields (L := [32, 32]) fieldsBits (by simp) (by intro t ht; simp at ht; subst ht; kernel_rfl) t5 rfl
  obtain ⟨u5, z5, h5, t5⟩ := hm5 0 _ rfl
  obtain ⟨u6, z6, h6, t6⟩ := hm5 1 _ rfl
  obtain ⟨n5, e5, _, w5⟩ := DataW.trod_int undU64 t5
  obtain ⟨n6, e6, _, w6⟩ := DataW.trod_int undU64 t6
  simp at e0 e1 e2 e3 e4 e5 e6 h5 h6
  subst e0 e1 e2 e3 e4 h5 h6 e5 e6
  have w2 := u64_wf w2
  have w5 := u64_wf w5
  have w6 := u64_wf w6
  obtain ⟨k2, rfl⟩ := Int.eq_ofNat_of_zero_le w2.1
  obtain ⟨k5, rfl⟩ := Int.eq_ofNat_of_zero_le w5.1
  obtain ⟨k6, rfl⟩ := Int.eq_ofNat_of_zero_le w6.1
  refine ⟨⟨b0, n1, k2, n3, s4, k5 * 2 ^ 64 + k6⟩, ?_, fun hw => ⟨(i64_wf w1).1, (i64_wf w1).2, by show k2 < _; omega, (i64_wf w3).1, (i64_wf w3).2, ?_, by show k5 * 2 ^ 64 + k6 < _; omega⟩⟩
  · have e1 : (k5 * 2 ^ 64 + k6) / 2 ^ 64 = k5 := by omega
    have e2 : (k5 * 2 ^ 64 + k6) % 2 ^ 64 = k6 := by omega
    unfold itV
    rw [e1, e2]
  · rw [hy] at hw
    have hwp := hw.part (L := [4, 3, 32, 3, 9, 34]) fieldsItem (i := 4) (t := 9) rfl d4
    rw [dd4] at hwp
    have := hwp.text
    have h2 : reachBytes = 140737488351232 := rfl
    show s4.size ≤ _
    rw [h2] at this
    simpa using this

theorem want_in {n : Nat} {cs : List Value} {y : DataW H × List MemPlace} (hl : cs.length = 4) (h : DataW.trod enc Try.prog W base sp held n 45 cs = some y) : ∃ i : Wa, cs = waV i ∧ i.Ok := by
  match cs, hl with
  | [v0, v1, v2, v3], _ =>
  obtain ⟨m, parts, hy, hm⟩ := trod_partsG (L := [4, 3, 32, 3]) fieldsWant (by simp) h
  obtain ⟨y0, t0, _⟩ := hm 0 _ rfl
  obtain ⟨y1, t1, _⟩ := hm 1 _ rfl
  obtain ⟨y2, t2, _⟩ := hm 2 _ rfl
  obtain ⟨y3, t3, _⟩ := hm 3 _ rfl
  rw [c1Bool] at t0
  rw [c1Int] at t1 t3
  rw [c1U64] at t2
  obtain ⟨b0, e0, _⟩ := DataW.trod_bool undBool t0
  obtain ⟨n1, e1, _, w1⟩ := DataW.trod_int undInt t1
  obtain ⟨n2, e2, _, w2⟩ := DataW.trod_int undU64 t2
  obtain ⟨n3, e3, _, w3⟩ := DataW.trod_int undInt t3
  simp at e0 e1 e2 e3
  subst e0 e1 e2 e3
  have w2 := u64_wf w2
  obtain ⟨k2, rfl⟩ := Int.eq_ofNat_of_zero_le w2.1
  exact ⟨⟨b0, n1, k2, n3⟩, rfl, ⟨(i64_wf w1).1, (i64_wf w1).2, by show k2 < _; omega, (i64_wf w3).1, (i64_wf w3).2⟩⟩

/-- Rows that are all of a kind. -/
theorem rows_of {α : Type} {f : α → List Value} {Q : α → Prop} : ∀ {rows : List (List Value)}, (∀ r ∈ rows, ∃ a, r = f a ∧ Q a) → ∃ l : List α, rows = l.map f ∧ ∀ a ∈ l, Q a := by
  intro rows
  induction rows with
  | nil => exact fun _ => ⟨[], rfl, by simp⟩
  | cons r rs ih =>
    intro h
    obtain ⟨a, rfl, ha⟩ := h r (by simp)
    obtain ⟨l, rfl, hl⟩ := ih fun r hr => h r (by simp [hr])
    exact ⟨a :: l, rfl, by simpa using ⟨ha, hl⟩⟩

theorem structOf {t : TypeId} (h : (match Try.prog.underlying t with | some (.struct _) => true | _ => false) = true) : ∃ fs, Try.prog.underlying t = some (.struct fs) := by
  cases hu : Try.prog.underlying t with
  | none => rw [hu] at h; cases h
  | some u =>
    rw [hu] at h
    cases u with
    | struct fs => exact ⟨fs, rfl⟩
    | _ => cases h

theorem item_arg {v : Value} {d : DataW H} {ps : List MemPlace} {r : Reach} {b0 : Nat} (hval : Value.okWide Try.prog W r b0 36 v) (hd : DataW.Trod enc Try.prog W 0 sp true 36 v d ps) (hw : WOk Try.prog 36 d) : ∃ i : It, v = .agg (itV i).toArray ∧ i.Ok := by
  obtain ⟨fs, hu⟩ := structOf (t := 36) (by kernel_rfl)
  obtain ⟨cs, rfl, hc⟩ := okWide_struct hu hval
  rw [cItem] at hc
  obtain ⟨fuel, hf⟩ := hd
  obtain ⟨f, hfv, ok⟩ := item_in (cs := cs.toList) (by simpa using hc) hf
  exact ⟨f, by rw [← hfv, Array.toArray_toList], ok hw⟩

theorem want_arg {v : Value} {d : DataW H} {ps : List MemPlace} {r : Reach} {b0 : Nat} (hval : Value.okWide Try.prog W r b0 45 v) (hd : DataW.Trod enc Try.prog W 0 sp true 45 v d ps) : ∃ i : Wa, v = .agg (waV i).toArray ∧ i.Ok := by
  obtain ⟨fs, hu⟩ := structOf (t := 45) (by kernel_rfl)
  obtain ⟨cs, rfl, hc⟩ := okWide_struct hu hval
  rw [cWant] at hc
  obtain ⟨fuel, hf⟩ := hd
  obtain ⟨f, hfv, ok⟩ := want_in (cs := cs.toList) (by simpa using hc) hf
  exact ⟨f, by rw [← hfv, Array.toArray_toList], ok⟩

theorem wants_arg {v : Value} {d : DataW H} {ps : List MemPlace} {r : Reach} {b0 : Nat} (hval : Value.okWide Try.prog W r b0 38 v) (hd : DataW.Trod enc Try.prog W 0 sp true 38 v d ps) (hw : WOk Try.prog 38 d) :
    ∃ (p : Option Addr) (n c : Nat) (l : List Wa), v = .slice p n c ∧ SegS W.heap p n 4 (l.map waV) ∧ (∀ x ∈ l, x.Ok) ∧ l.length ≤ 4398046510976 := by
  obtain ⟨p, n, c, rows, rfl, hs, _, hq, hl⟩ := segS_arg undWants cWant (by decide) hval hd (Q := fun r => ∃ f : Wa, r = waV f ∧ f.Ok) fun n cs y hl h => want_in hl h
  obtain ⟨l, rfl, hok⟩ := rows_of hq
  refine ⟨p, n, c, l, rfl, hs, hok, ?_⟩
  have hk : l.length = n := by have := hs.1; simpa using this
  rcases hl with h0 | ⟨elems, rest, rfl, hel⟩
  · omega
  · have := hw.len undWants
    rw [bWant] at this
    have h2 : reachBytes = 140737488351232 := rfl
    omega

theorem items_arg {v : Value} {d : DataW H} {ps : List MemPlace} {r : Reach} {b0 : Nat} (hval : Value.okWide Try.prog W r b0 22 v) (hd : DataW.Trod enc Try.prog W 0 sp true 22 v d ps) (hw : WOk Try.prog 22 d) :
    ∃ (p : Option Addr) (n c : Nat) (l : List It), v = .slice p n c ∧ SegS W.heap p n 7 (l.map itV) ∧ (∀ x ∈ l, x.Ok) ∧ l.length ≤ 2199023255488 := by
  obtain ⟨a, len, cap, rfl⟩ := okWide_slice undItems hval
  obtain ⟨fuel, hf⟩ := hd
  obtain ⟨p, n, c, rows, hcs, hs, hnc, hl⟩ := segS_in2 undItems cItem (by decide) hf (Q := fun r y => ∃ i : It, r = itV i ∧ (WOk Try.prog 36 y → i.Ok)) fun n cs y hl h => item_in hl h
  simp [Value.cells] at hcs
  obtain ⟨rfl, rfl, rfl⟩ := hcs
  rcases hl with h0 | ⟨elems, rest, hx, hel, hr⟩
  · have hn : rows = [] := List.eq_nil_of_length_eq_zero (by rw [hs.1]; exact h0)
    subst hn
    exact ⟨_, _, _, [], rfl, hs, by simp, by simp⟩
  · simp only at hx
    subst hx
    obtain ⟨l, rfl, hok⟩ := rows_of (f := itV) (Q := fun i => i.Ok) fun r hr' => by
      obtain ⟨y, hy, o, ho, hk⟩ := hr r hr'
      exact ⟨o, ho, hk (hw.elem undItems y hy)⟩
    refine ⟨_, _, _, l, rfl, hs, hok, ?_⟩
    have hk : l.length = len := by have := hs.1; simpa using this
    have := hw.len undItems
    rw [bItem] at this
    have h2 : reachBytes = 140737488351232 := rfl
    omega

end

end Go.Vc
