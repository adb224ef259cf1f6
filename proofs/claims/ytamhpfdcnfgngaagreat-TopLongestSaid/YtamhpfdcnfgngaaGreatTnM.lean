/- From the walks to the rows: routes and bits, as arguments. -/
import Derived.Test.YtamhpfdcnfgngaaGreatRows
import Derived.Test.YtamhpfdcnfgngaaGreatVcR
import Derived.Test.YtamhpfdcnfgngaaGreatVcS
import Derived.Test.YtamhpfdcnfgngaaGreatTnL
set_option maxRecDepth 10000
namespace Go.Vc
open Go Go.Proofs Go.ChangeShapes Go.WideShapes Go.ChangeAt Go.RowKit Go.Proofs.YtamhpfdcnfgngaaGreat

theorem own : ownKnob Tryz.prog.godebug = none := by kernel_rfl
theorem laidOut : laidOutB Tryz.prog = true := by kernel_rfl
theorem undBool : Tryz.prog.underlying 4 = some .bool := by kernel_rfl
theorem undInt : Tryz.prog.underlying 3 = some (.int .i64) := by kernel_rfl
theorem undU64 : Tryz.prog.underlying 38 = some (.int .u64) := by kernel_rfl
theorem undRoutes : Tryz.prog.underlying 22 = some (.slice 42) := by kernel_rfl
theorem undAsked : Tryz.prog.underlying 23 = some (.slice 40) := by kernel_rfl
theorem cRoute : Tryz.prog.cellsOf 42 = 5 := by kernel_rfl
theorem cBits : Tryz.prog.cellsOf 40 = 2 := by kernel_rfl
theorem c1Bool : Tryz.prog.cellsOf 4 = 1 := by kernel_rfl
theorem c1Int : Tryz.prog.cellsOf 3 = 1 := by kernel_rfl
theorem c1U64 : Tryz.prog.cellsOf 38 = 1 := by kernel_rfl

noncomputable def plainWorld (os : Os) : World := World.holding Tryz.prog os ⟨#[], #[], []⟩

theorem ends {H : Type} {enc : TypeId × Value → H} {f : FuncId} {fn : Func} {s : ChangeSpec} {W : World} {args : Array Value} {ds gs : List (DataW H)} {before : List MemPlace}
    (hvars : s.vars = []) (hres : fn.resultTypes = #[4]) (hts : (fn.params.toList.all fun t => Tryz.prog.readableRec t && decide (t < Tryz.prog.types.size)) = true)
    (hspec : s.fn H (ds ++ gs) = { results := [.lit (.bool true)], args := ds })
    (hW : DataW.Whole enc Tryz.prog fn.params.toList s.vars false W args.toList ds gs before)
    (hc : CallsH Tryz.prog f args W.heap (RetX (.bool true) W.heap)) :
    Calls Tryz.prog f args W fun e W' => ∃ v, e = .returned v ∧ s.post enc Tryz.prog fn false true false false W args v W' := by
  refine (hc W rfl).mono fun e W' ⟨_, hr, he, hx⟩ => ⟨_, he, ?_⟩
  refine post_true laidOut hvars hres undBool (fun t ht => ?_) hspec hW (below_of hr hx)
  have := List.all_eq_true.1 hts t ht
  simp only [Bool.and_eq_true, decide_eq_true_eq] at this
  exact this

section
variable {H : Type} {enc : TypeId × Value → H} {W : World} {sp : Nat → Bool} {held : Bool} {base : Nat}

theorem trod_partsP {P : Program} {e : TypeId} {L : List (TypeId × Nat)} {n : Nat} {cs : List Value} {y : DataW H × List MemPlace} (hT : fieldsOf P e = L) (hL : L ≠ [])
    (h : DataW.trod enc P W base sp held n e cs = some y) :
    ∃ m, ∀ (i : Nat) (t : TypeId) (o : Nat), L[i]? = some (t, o) → ∃ yi, DataW.trod enc P W base sp held m t ((cs.drop o).take (P.cellsOf t)) = some yi := by
  have hu : ∃ fs : Array Field, P.underlying e = some (.struct fs) ∧ (fs.toList.map fun f => (f.type, f.offset)) = L := by
    unfold fieldsOf at hT
    split at hT
    · rename_i fs hu; exact ⟨fs, hu, hT⟩
    · exact absurd hT.symm hL
  obtain ⟨fs, hu, hfs⟩ := hu
  obtain ⟨xs, m, _, hy, _, hxl, hf⟩ := DataW.trod_struct hu h
  refine ⟨m, fun i t o hi => ?_⟩
  have hil := (List.getElem?_eq_some_iff.1 hi).1
  have hfl : fs.size = L.length := by have := congrArg List.length hfs; simpa using this
  have hfi : fs[i]? = some (fs[i]'(by omega)) := Array.getElem?_eq_getElem (by omega)
  have h1 := hf i _ hfi
  have h2 : ((fs[i]'(by omega)).type, (fs[i]'(by omega)).offset) = (t, o) := by
    have := congrArg (fun l : List (TypeId × Nat) => l[i]?) hfs
    simp only [List.getElem?_map, Array.getElem?_toList, hfi, Option.map_some] at this
    rw [hi] at this
    exact Option.some.inj this
  obtain ⟨h3, h4⟩ := Prod.mk.inj h2
  rw [h3, h4, List.getElem?_eq_getElem (by omega)] at h1
  exact ⟨_, h1⟩

theorem fieldsRoute : fieldsOf Tryz.prog 42 = [(40, 0), (3, 2), (38, 3), (4, 4)] := by kernel_rfl
theorem fieldsBits : fieldsOf Tryz.prog 40 = [(38, 0), (38, 1)] := by kernel_rfl

theorem word_of {n : Int} (h : (Lit.int .u64 n).wf = true) : Value.int .u64 n = vW (BitVec.ofInt 64 n) := by
  have w := u64_wf h
  have : ((BitVec.ofInt 64 n).toNat : Int) = n := by
    rw [BitVec.toNat_ofInt]
    omega
  rw [vW, this]

theorem bits_in {n : Nat} {cs : List Value} {y : DataW H × List MemPlace} (hl : cs.length = 2) (h : DataW.trod enc Tryz.prog W base sp held n 40 cs = some y) : ∃ x : B128, cs = bitsL x := by
  match cs, hl with
  | [v0, v1], _ =>
  obtain ⟨m, hm⟩ := trod_partsP fieldsBits (by simp) h
  obtain ⟨y0, t0⟩ := hm 0 _ _ rfl
  obtain ⟨y1, t1⟩ := hm 1 _ _ rfl
  rw [c1U64] at t0 t1
  obtain ⟨n0, e0, _, w0⟩ := DataW.trod_int undU64 t0
  obtain ⟨n1, e1, _, w1⟩ := DataW.trod_int undU64 t1
  simp at e0 e1
  subst e0 e1
  refine ⟨mkB (BitVec.ofInt 64 n0) (BitVec.ofInt 64 n1), ?_⟩
  rw [word_of w0, word_of w1]
  simp only [bitsL, hi_mk, lo_mk]

theorem route_in {n : Nat} {cs : List Value} {y : DataW H × List MemPlace} (hl : cs.length = 5) (h : DataW.trod enc Tryz.prog W base sp held n 42 cs = some y) : ∃ r : Ro, cs = r.cells ∧ (-9223372036854775808 ≤ r.len ∧ r.len < 9223372036854775808) := by
  match cs, hl with
  | [v0, v1, v2, v3, v4], _ =>
  obtain ⟨m, hm⟩ := trod_partsP fieldsRoute (by simp) h
  obtain ⟨y0, t0⟩ := hm 0 _ _ rfl
  obtain ⟨y1, t1⟩ := hm 1 _ _ rfl
  obtain ⟨y2, t2⟩ := hm 2 _ _ rfl
  obtain ⟨y3, t3⟩ := hm 3 _ _ rfl
  rw [cBits] at t0
  rw [c1Int] at t1
  rw [c1U64] at t2
  rw [c1Bool] at t3
  obtain ⟨x, ex⟩ := bits_in (by simp) t0
  obtain ⟨n1, e1, _, w1⟩ := DataW.trod_int undInt t1
  obtain ⟨n2, e2, _, w2⟩ := DataW.trod_int undU64 t2
  obtain ⟨b3, e3, _⟩ := DataW.trod_bool undBool t3
  simp at ex e1 e2 e3
  obtain ⟨rfl, rfl⟩ := ex
  subst e1 e2 e3
  refine ⟨⟨x, n1, BitVec.ofInt 64 n2, b3⟩, ?_, (i64_wf w1).1, by have := (i64_wf w1).2; show n1 < _; omega⟩
  rw [word_of w2]

theorem rows_of {α : Type} {f : α → List Value} {Q : α → Prop} : ∀ {rows : List (List Value)}, (∀ r ∈ rows, ∃ a, r = f a ∧ Q a) → ∃ l : List α, rows = l.map f ∧ ∀ a ∈ l, Q a := by
  intro rows
  induction rows with
  | nil => exact fun _ => ⟨[], rfl, by simp⟩
  | cons r rs ih =>
    intro h
    obtain ⟨a, rfl, ha⟩ := h r (by simp)
    obtain ⟨l, rfl, hl⟩ := ih fun r hr => h r (by simp [hr])
    exact ⟨a :: l, rfl, by simpa using ⟨ha, hl⟩⟩

theorem routes_arg {v : Value} {d : DataW H} {ps : List MemPlace} {r : Reach} {b0 : Nat} (hval : Value.okWide Tryz.prog W r b0 22 v) (hd : DataW.Trod enc Tryz.prog W 0 sp true 22 v d ps) :
    ∃ (p : Option Addr) (n c : Nat) (l : List Ro), v = .slice p n c ∧ SegS W.heap p n 5 (l.map Ro.cells) ∧ ∀ r ∈ l, -9223372036854775808 ≤ r.len ∧ r.len < 9223372036854775808 := by
  obtain ⟨p, n, c, rows, rfl, hs, _, hq, _⟩ := segS_arg undRoutes cRoute (by decide) hval hd (Q := fun r => ∃ f : Ro, r = f.cells ∧ (-9223372036854775808 ≤ f.len ∧ f.len < 9223372036854775808)) fun n cs y hl h => route_in hl h
  obtain ⟨l, rfl, hok⟩ := rows_of hq
  exact ⟨p, n, c, l, rfl, hs, hok⟩

theorem asked_arg {v : Value} {d : DataW H} {ps : List MemPlace} {r : Reach} {b0 : Nat} (hval : Value.okWide Tryz.prog W r b0 23 v) (hd : DataW.Trod enc Tryz.prog W 0 sp true 23 v d ps) :
    ∃ (p : Option Addr) (n c : Nat) (l : List B128), v = .slice p n c ∧ SegS W.heap p n 2 (l.map bitsL) := by
  obtain ⟨p, n, c, rows, rfl, hs, _, hq, _⟩ := segS_arg undAsked cBits (by decide) hval hd (Q := fun r => ∃ f : B128, r = bitsL f ∧ True) fun n cs y hl h => (bits_in hl h).imp fun _ h => ⟨h, trivial⟩
  obtain ⟨l, rfl, _⟩ := rows_of hq
  exact ⟨p, n, c, l, rfl, hs⟩

end

end Go.Vc
