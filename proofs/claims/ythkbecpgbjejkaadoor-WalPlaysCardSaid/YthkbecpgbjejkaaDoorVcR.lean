/- From a law's walk to its row: what is the same in all of them. -/
import Derived.Test.YthkbecpgbjejkaaDoorVcH
import Derived.ProofKit
import Derived.OpenShut
import Derived.Carry
import Derived.SizedLaws
import Derived.SliceStrings
import Derived.Deep.DeepHandedRow
set_option maxRecDepth 10000
namespace Go.Vc
open Go Go.ChangeShapes Go.WideShapes Go.ChangeAt Go.RowKit

/-- Below the heap's old end nothing turns. -/
theorem below_of {w w' : World} (hr : Rest w w') (hx : Ext w.heap w'.heap) : Below w.heap.size w w' :=
  ⟨hr.os, hr.tape, hr.output, hx.size, hx.old⟩

section
variable {H : Type} {enc : TypeId × Value → H} {P : Program}

theorem trodAll_stays (hl : laidOutB P = true) {W W' : World} (hb : Below W.heap.size W W') {sp : Nat → Bool} : ∀ {ts : List TypeId} {vs : List Value} {ds : List (DataW H)} {ps : List MemPlace},
    (∀ t ∈ ts, P.readableRec t = true ∧ t < P.types.size) → DataW.TrodAll enc P W 0 (fun _ => true) true ts vs ds ps → (∀ x ∈ ps, x.block < W.heap.size) → (∀ x ∈ ps, sp x.block = true) →
    DataW.TrodAll enc P W' 0 sp true ts vs ds ps := by
  intro ts
  induction ts with
  | nil =>
    intro vs ds ps _ h _ _
    obtain ⟨rfl, rfl, rfl⟩ := trodAll_nil h
    exact trodAll_mk0
  | cons t r ih =>
    intro vs ds ps ht h hlt hsp
    obtain ⟨v, vs', d, ds', p, q, rfl, rfl, rfl, hd, hrest⟩ := trodAll_cons h
    refine trodAll_cons_mk (WideElems.Trod_stays hl (ht t (by simp)).1 (ht t (by simp)).2 hd (fun x hx => hb.same (hlt x (by simp [hx]))) (fun x hx => hsp x (by simp [hx]))) (ih (fun u hu => ht u (by simp [hu])) hrest (fun x hx => hlt x (by simp [hx])) (fun x hx => hsp x (by simp [hx])))

/-- A law that answers true and turns nothing that was there. -/
theorem post_true (hl : laidOutB P = true) {f : Func} {s : ChangeSpec} {apart fresh handsOn : Bool} {W W' : World} {args : Array Value} {ds gs : List (DataW H)} {before : List MemPlace} {tb : TypeId}
    (hvars : s.vars = []) (hres : f.resultTypes = #[tb]) (hb : P.underlying tb = some .bool) (hts : ∀ t ∈ f.params.toList, P.readableRec t = true ∧ t < P.types.size)
    (hspec : s.fn H (ds ++ gs) = { results := [.lit (.bool true)], args := ds })
    (hW : DataW.Whole enc P f.params.toList s.vars apart W args.toList ds gs before) (hx : Below W.heap.size W W') :
    s.post enc P f apart fresh handsOn false W args (.bool true) W' := by
  have hW' := hW
  obtain ⟨p, q, hA, hV, rfl, hfz, hnd⟩ := hW
  rw [hvars] at hV
  obtain ⟨rfl, rfl⟩ := trodVars_none hV
  have hlt : ∀ x ∈ p, x.block < W.heap.size := fun x hx => hW'.lt x (by simp [hx])
  have e1 : (Value.bool true).resultList f.resultTypes.size = [.bool true] := by rw [hres]; rfl
  refine ⟨ds, [], p ++ [], [], p, [], hW', ?_, ?_, ?_, hx.frame _, fun h => (by cases h)⟩
  · rw [e1, hres, hspec]
    exact trodAll_cons_mk (shut_bool hb _) trodAll_mk0
  · rw [hspec]
    exact trodAll_stays hl hx hts hA hlt (fun x hx => by simpa using hlt x hx)
  · rw [hspec, hvars]; trivial

/-- A slice of texts that came in. -/
theorem strings_in {W : World} {sp : Nat → Bool} {t e : TypeId} (ht : P.underlying t = some (.slice e)) (he : P.underlying e = some .string) (hc : P.cellsOf e = 1) {v : Value} {d : DataW H} {ps : List MemPlace} {r : Reach} {b0 : Nat}
    (hval : Value.okWide P W r b0 t v) (hd : DataW.Trod enc P W 0 sp true t v d ps) :
    ∃ (p : Option Addr) (n c : Nat) (l : List ByteArray), v = .slice p n c ∧ Seg W.heap p n (l.map Value.string) ∧ (∀ b ∈ l, b.size ≤ maxLen) ∧ n ≤ c ∧ (l = [] ∨ ∃ rest, d = .slice (strs l) rest) := by
  obtain ⟨a, len, cap, rfl⟩ := okWide_slice ht hval
  obtain ⟨fuel, hf⟩ := hd
  rcases open_strings ht he hc hf with ⟨hcs, hx⟩ | ⟨a', len', cap', ss, hcs, _, hl, hm, hz, hx, hcell, hws⟩
  · simp [Value.cells] at hcs
    obtain ⟨rfl, rfl, rfl⟩ := hcs
    exact ⟨none, 0, 0, [], rfl, Seg.nil, by simp, Nat.le_refl _, .inl rfl⟩
  · simp [Value.cells] at hcs
    obtain ⟨rfl, rfl, rfl⟩ := hcs
    simp only [Prod.mk.injEq] at hx
    have hlen : len ≤ ss.length := by rw [hz]; split <;> omega
    have htl : (ss.take len).length = len := by simp; omega
    refine ⟨some a', len, cap, ss.take len, rfl, ⟨by simp; omega, ?_⟩, fun b hb => hws b (List.mem_of_mem_take hb), hl, .inr ⟨_, hx.1⟩⟩
    by_cases h0 : len = 0
    · exact .inl (by subst h0; simp)
    · have hspot : a' = ⟨a'.block, a'.off, none⟩ := by
        have := hcell 0 (by omega)
        obtain ⟨b, o, s⟩ := a'
        cases s with
        | none => rfl
        | some s => exfalso; simp only [World.cell?, Addr.add] at this; split at this <;> simp at this
      refine .inr ⟨a'.block, a'.off, by rw [← hspot], cellsAt_iff.2 fun j hj => ?_⟩
      have hj' : j < len := by simp at hj; omega
      have := hcell j (by omega)
      rw [hspot, addr_add] at this
      show W.cell? _ = _
      rw [this]
      simp [List.getD, List.getElem?_eq_getElem (show j < ss.length by omega)]

/-- A word that came in. -/
theorem word_in {W : World} {sp : Nat → Bool} {t : TypeId} (ht : P.underlying t = some (.int .u32)) {v : Value} {d : DataW H} {ps : List MemPlace} {r : Reach} {b0 : Nat}
    (hval : Value.okWide P W r b0 t v) (hd : DataW.Trod enc P W 0 sp true t v d ps) : ∃ x : BitVec 32, v = .int .u32 (x.toNat : Int) := by
  obtain ⟨n, rfl, _, _, hw⟩ := open_int ht hval hd
  have h2 : (IntKind.u32.min ≤ n ∧ n ≤ IntKind.u32.max) := by simpa [Lit.wf] using hw
  have h3 : 0 ≤ n ∧ n ≤ 4294967295 := h2
  refine ⟨BitVec.ofNat 32 n.toNat, ?_⟩
  congr 1
  rw [BitVec.toNat_ofNat]
  omega

theorem int_in {W : World} {sp : Nat → Bool} {t : TypeId} (ht : P.underlying t = some (.int .i64)) {v : Value} {d : DataW H} {ps : List MemPlace} {r : Reach} {b0 : Nat}
    (hval : Value.okWide P W r b0 t v) (hd : DataW.Trod enc P W 0 sp true t v d ps) : ∃ n : Int, v = .int .i64 n ∧ -9223372036854775808 ≤ n ∧ n ≤ 9223372036854775807 := by
  obtain ⟨n, rfl, _, _, hw⟩ := open_int ht hval hd
  have h2 : (IntKind.i64.min ≤ n ∧ n ≤ IntKind.i64.max) := by simpa [Lit.wf] using hw
  exact ⟨n, rfl, h2⟩

/-- The fields' types and places. -/
def fieldsOf (P : Program) (t : TypeId) : List (TypeId × Nat) := match P.underlying t with
  | some (.struct fs) => fs.toList.map fun f => (f.type, f.offset)
  | _ => []

theorem three_fields {t t0 t1 t2 : TypeId} (h : fieldsOf P t = [(t0, 0), (t1, 1), (t2, 2)]) : ∃ f0 f1 f2 : Field, P.underlying t = some (.struct #[f0, f1, f2]) ∧ (f0.type, f0.offset) = (t0, 0) ∧ (f1.type, f1.offset) = (t1, 1) ∧ (f2.type, f2.offset) = (t2, 2) := by
  unfold fieldsOf at h
  split at h
  · rename_i fs hu
    obtain ⟨l⟩ := fs
    have hl : l.length = 3 := by have := congrArg List.length h; simpa using this
    obtain ⟨f0, l, rfl⟩ := List.exists_cons_of_length_eq_add_one hl
    obtain ⟨f1, l, rfl⟩ := List.exists_cons_of_length_eq_add_one (by simpa using hl : l.length = 1 + 1)
    obtain ⟨f2, l, rfl⟩ := List.exists_cons_of_length_eq_add_one (by simpa using hl : l.length = 0 + 1)
    obtain rfl : l = [] := List.eq_nil_of_length_eq_zero (by simpa using hl)
    simp only [List.map_cons, List.map_nil, List.cons.injEq, and_true] at h
    exact ⟨f0, f1, f2, hu, h.1, h.2.1, h.2.2⟩
  · cases h

/-- A struct of three numbers that came in. -/
theorem three_in {W : World} {sp : Nat → Bool} {t t0 t1 t2 : TypeId} {k0 k1 k2 : IntKind} (hT : fieldsOf P t = [(t0, 0), (t1, 1), (t2, 2)]) (cT : P.cellsOf t = 3)
    (u0 : P.underlying t0 = some (.int k0)) (u1 : P.underlying t1 = some (.int k1)) (u2 : P.underlying t2 = some (.int k2)) (c0 : P.cellsOf t0 = 1) (c1 : P.cellsOf t1 = 1) (c2 : P.cellsOf t2 = 1)
    {v : Value} {d : DataW H} {ps : List MemPlace} {r : Reach} {b0 : Nat}
    (hval : Value.okWide P W r b0 t v) (hd : DataW.Trod enc P W 0 sp true t v d ps) :
    ∃ n0 n1 n2 : Int, v = .agg #[.int k0 n0, .int k1 n1, .int k2 n2] ∧ (Lit.int k0 n0).wf = true ∧ (Lit.int k1 n1).wf = true ∧ (Lit.int k2 n2).wf = true := by
  obtain ⟨f0, f1, f2, ht, o0, o1, o2⟩ := three_fields hT
  obtain ⟨cs, rfl, hs⟩ := okWide_struct ht hval
  obtain ⟨fuel, hf⟩ := hd
  obtain ⟨xs, n, _, _, _, hxl, hfs⟩ := DataW.trod_struct ht hf
  obtain ⟨e0, e0'⟩ := Prod.mk.inj o0
  obtain ⟨e1, e1'⟩ := Prod.mk.inj o1
  obtain ⟨e2, e2'⟩ := Prod.mk.inj o2
  rw [cT] at hs
  obtain ⟨a, b, c, rfl⟩ : ∃ a b c, cs = #[a, b, c] := by
    obtain ⟨l⟩ := cs
    match l, hs with
    | [a, b, c], _ => exact ⟨a, b, c, rfl⟩
  have hx3 : xs.length = 3 := by simpa using hxl
  obtain ⟨x, y, z, rfl⟩ : ∃ x y z, xs = [x, y, z] := by
    match xs, hx3 with
    | [x, y, z], _ => exact ⟨x, y, z, rfl⟩
  have q0 := hfs 0 f0 (by simp)
  have q1 := hfs 1 f1 (by simp)
  have q2 := hfs 2 f2 (by simp)
  rw [e0', e0, c0] at q0
  rw [e1', e1, c1] at q1
  rw [e2', e2, c2] at q2
  obtain ⟨n0, h0, _, w0⟩ := DataW.trod_int u0 q0
  obtain ⟨n1, h1, _, w1⟩ := DataW.trod_int u1 q1
  obtain ⟨n2, h2, _, w2⟩ := DataW.trod_int u2 q2
  simp [Value.cells] at h0 h1 h2
  subst h0 h1 h2
  exact ⟨n0, n1, n2, rfl, w0, w1, w2⟩

theorem u16_wf {n : Int} (h : (Lit.int .u16 n).wf = true) : ∃ m : Nat, m < 65536 ∧ n = (m : Int) := by
  have h2 : (IntKind.u16.min ≤ n ∧ n ≤ IntKind.u16.max) := by simpa [Lit.wf] using h
  have h3 : 0 ≤ n ∧ n ≤ 65535 := h2
  exact ⟨n.toNat, by omega, by omega⟩

theorem i64_wf {n : Int} (h : (Lit.int .i64 n).wf = true) : -9223372036854775808 ≤ n ∧ n ≤ 9223372036854775807 := by
  have h2 : (IntKind.i64.min ≤ n ∧ n ≤ IntKind.i64.max) := by simpa [Lit.wf] using h
  exact h2

end
end Go.Vc
