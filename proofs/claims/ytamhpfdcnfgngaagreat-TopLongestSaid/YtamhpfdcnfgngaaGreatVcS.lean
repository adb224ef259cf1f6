/- From a law's walk to its row: slices of structs that come in. -/
import Derived.Test.YtamhpfdcnfgngaaGreatVcO
import Derived.Test.YtamhpfdcnfgngaaGreatVcR
set_option maxRecDepth 10000
namespace Go.Vc
open Go Go.ChangeShapes Go.WideShapes Go.ChangeAt Go.RowKit

section
variable {H : Type} {enc : TypeId × Value → H} {P : Program}

theorem spot_none {W : World} {a : Addr} {v : Value} (h : W.cell? a = some v) : a = ⟨a.block, a.off, none⟩ := by
  obtain ⟨b, o, s⟩ := a
  cases s with
  | none => rfl
  | some s => exfalso; simp only [World.cell?] at h; split at h <;> simp at h

theorem segS_in {W : World} {base : Nat} {sp : Nat → Bool} {held : Bool} {t e : TypeId} {z fuel : Nat} {cs : List Value} {x : DataW H × List MemPlace} (ht : P.underlying t = some (.slice e)) (hz : P.cellsOf e = z) (hz0 : 0 < z)
    (hd : DataW.trod enc P W base sp held fuel t cs = some x) {Q : List Value → Prop} (hQ : ∀ n cs y, cs.length = z → DataW.trod enc P W base sp held n e cs = some y → Q cs) :
    ∃ (p : Option Addr) (n c : Nat) (rows : List (List Value)), cs = [.slice p n c] ∧ SegS W.heap p n z rows ∧ n ≤ c ∧ (∀ r ∈ rows, Q r) ∧ (n = 0 ∨ ∃ elems rest, x.1 = .slice elems rest ∧ elems.length = n) := by
  rcases DataW.trod_slice ht hd with ⟨hcs, hx⟩ | ⟨a, len, cap, elems, rest, n, _, hcs, hx, hb, hl, hm, hlen, hel, _, _⟩
  · exact ⟨none, 0, 0, [], hcs, SegS.nil _ _, Nat.le_refl _, by simp, .inl rfl⟩
  · have hrow : ∀ i, i < len → ∃ r : List Value, r.length = z ∧ (∀ j (hj : j < r.length), W.cell? ((a.add (i * z)).add j) = some r[j]) ∧ Q r := by
      intro i hi
      have h1 := hel i hi
      rw [List.getElem?_eq_getElem (by omega), hz] at h1
      obtain ⟨cs, hcs, hy⟩ := Option.bind_eq_some_iff.1 h1
      obtain ⟨_, h2, h3⟩ := World.cells?_some hcs
      exact ⟨cs, h2, fun j hj => by rw [h3 j (by omega)]; exact List.getElem?_eq_getElem hj, hQ _ _ _ h2 hy⟩
    have hrows : ∀ m, m ≤ len → ∃ rows : List (List Value), rows.length = m ∧ (∀ r ∈ rows, r.length = z ∧ Q r) ∧ ∀ i (hi : i < rows.length), ∀ j (hj : j < rows[i].length), W.cell? ((a.add (i * z)).add j) = some rows[i][j] := by
      intro m
      induction m with
      | zero => exact fun _ => ⟨[], rfl, by simp, fun i hi => by cases hi⟩
      | succ m ih =>
        intro hm
        obtain ⟨rows, h1, h2, h3⟩ := ih (by omega)
        obtain ⟨r, hr1, hr2, hr3⟩ := hrow m (by omega)
        refine ⟨rows ++ [r], by simp [h1], ?_, ?_⟩
        · intro r' hr'
          rcases List.mem_append.1 hr' with h | h
          · exact h2 _ h
          · simp at h; subst h; exact ⟨hr1, hr3⟩
        · intro i hi j hj
          rcases Nat.lt_or_ge i rows.length with h | h
          · have e : (rows ++ [r])[i] = rows[i] := List.getElem_append_left h
            simp only [e] at hj ⊢
            exact h3 i h j hj
          · have hi' : i = m := by simp at hi; omega
            have e : (rows ++ [r])[i] = r := by rw [List.getElem_append_right h]; simp
            simp only [e] at hj ⊢
            subst hi'
            exact hr2 j hj
    obtain ⟨rows, h1, h2, h3⟩ := hrows len (Nat.le_refl _)
    refine ⟨some a, len, cap, rows, hcs, ⟨h1, fun r hr => (h2 r hr).1, ?_⟩, hl, fun r hr => (h2 r hr).2, .inr ⟨_, _, by rw [hx], by simpa using hlen⟩⟩
    by_cases h0 : rows = []
    · exact .inl h0
    · right
      have hpos : 0 < rows.length := List.length_pos_iff.2 h0
      have hr0 : 0 < rows[0].length := by rw [(h2 _ (List.getElem_mem hpos)).1]; exact hz0
      have hspot : a = ⟨a.block, a.off, none⟩ := by
        have h4 := h3 0 hpos 0 hr0
        have h5 := spot_none h4
        obtain ⟨b, o, s⟩ := a
        cases s with
        | none => rfl
        | some s => simp [Addr.add] at h5
      refine ⟨a.block, a.off, by rw [← hspot], ?_⟩
      -- the cells, row by row
      have key : ∀ (rs : List (List Value)) (k : Nat), (∀ r ∈ rs, r.length = z) → (∀ i (hi : i < rs.length), ∀ j (hj : j < rs[i].length), cellH W.heap ⟨a.block, a.off + ((k + i) * z + j), none⟩ = some rs[i][j]) → cellsAt W.heap a.block (a.off + k * z) rs.flatten := by
        intro rs
        induction rs with
        | nil => exact fun _ _ _ => trivial
        | cons r rs ih =>
          intro k hl hc
          rw [List.flatten_cons]
          have hrz := hl r (by simp)
          have h1 : cellsAt W.heap a.block (a.off + k * z) r := cellsAt_iff.2 fun j hj => by
            have := hc 0 (by simp) j (by simpa using hj)
            rw [Nat.add_zero, ← Nat.add_assoc] at this
            exact this
          have h2 : cellsAt W.heap a.block (a.off + k * z + r.length) rs.flatten := by
            have := ih (k + 1) (fun r hr => hl r (by simp [hr])) fun i hi j hj => by
              have := hc (i + 1) (by simpa using hi) j (by simpa using hj)
              rw [show k + (i + 1) = k + 1 + i by omega] at this
              simpa using this
            rw [Nat.succ_mul] at this
            rw [hrz, Nat.add_assoc]; exact this
          rw [cellsAt_iff] at *
          intro j hj
          by_cases hjr : j < r.length
          · rw [List.getElem_append_left hjr]; exact h1 j hjr
          · have := h2 (j - r.length) (by rw [List.length_append] at hj; omega)
            rw [List.getElem_append_right (by omega)]
            rw [show a.off + k * z + r.length + (j - r.length) = a.off + k * z + j by omega] at this
            exact this
      have := key rows 0 (fun r hr => (h2 r hr).1) fun i hi j hj => by
        have h4 := h3 i hi j hj
        rw [hspot, addr_add, addr_add] at h4
        rw [Nat.zero_add, ← Nat.add_assoc]
        exact h4
      rw [Nat.zero_mul, Nat.add_zero] at this
      exact this

theorem segS_arg {W : World} {sp : Nat → Bool} {t e : TypeId} {z : Nat} (ht : P.underlying t = some (.slice e)) (hz : P.cellsOf e = z) (hz0 : 0 < z) {v : Value} {d : DataW H} {ps : List MemPlace} {r : Reach} {b0 : Nat}
    (hval : Value.okWide P W r b0 t v) (hd : DataW.Trod enc P W 0 sp true t v d ps) {Q : List Value → Prop} (hQ : ∀ n cs y, cs.length = z → DataW.trod enc P W 0 sp true n e cs = some y → Q cs) :
    ∃ (p : Option Addr) (n c : Nat) (rows : List (List Value)), v = .slice p n c ∧ SegS W.heap p n z rows ∧ n ≤ c ∧ (∀ r ∈ rows, Q r) ∧ (n = 0 ∨ ∃ elems rest, d = .slice elems rest ∧ elems.length = n) := by
  obtain ⟨a, len, cap, rfl⟩ := okWide_slice ht hval
  obtain ⟨fuel, hf⟩ := hd
  obtain ⟨p, n, c, rows, hcs, h1, h2, h3, h4⟩ := segS_in ht hz hz0 hf hQ
  simp [Value.cells] at hcs
  obtain ⟨rfl, rfl, rfl⟩ := hcs
  exact ⟨_, _, _, rows, rfl, h1, h2, h3, h4⟩

def WOk (P : Program) (t : TypeId) (d : DataW H) : Prop := ∀ w ∈ DataW.weights P t d, w ≤ reachBytes

theorem WOk.len {t e : TypeId} {elems rest : List (DataW H)} (h : WOk P t (.slice elems rest)) (ht : P.underlying t = some (.slice e)) : elems.length * P.bytesOf e ≤ reachBytes := by
  have := h ((elems.length + rest.length) * P.bytesOf e) (by simp [DataW.weights, ht])
  exact Nat.le_trans (Nat.mul_le_mul_right _ (Nat.le_add_right _ _)) this

theorem WOk.text {t : TypeId} {bytes : List UInt8} (h : WOk P t (.lit (.string bytes) : DataW H)) : bytes.length ≤ reachBytes := h _ (by simp [DataW.weights])

theorem weightsEach_mem {w : Nat} : ∀ {ts : List TypeId} {ds : List (DataW H)} {i : Nat} {t : TypeId} {d : DataW H}, ts[i]? = some t → ds[i]? = some d → w ∈ DataW.weights P t d → w ∈ DataW.weightsEach P ts ds := by
  intro ts
  induction ts with
  | nil => intro ds i t d h; simp at h
  | cons t0 ts ih =>
    intro ds i t d ht hd hw
    cases ds with
    | nil => simp at hd
    | cons d0 ds =>
      simp only [DataW.weightsEach, List.mem_append]
      cases i with
      | zero => simp at ht hd; subst ht hd; exact .inl hw
      | succ i => exact .inr (ih (by simpa using ht) (by simpa using hd) hw)

theorem WOk.part {e : TypeId} {L : List TypeId} {parts : List (DataW H)} (h : WOk P e (.agg parts)) (hT : fieldsOf P e = L.zip (List.range L.length)) {i : Nat} {t : TypeId} {d : DataW H} (hi : L[i]? = some t) (hd : parts[i]? = some d) : WOk P t d := by
  intro w hw
  have hL : L ≠ [] := fun e => by subst e; simp at hi
  unfold fieldsOf at hT
  split at hT
  · rename_i fs hu
    refine h w ?_
    simp only [DataW.weights, hu]
    refine weightsEach_mem (i := i) (t := t) ?_ hd hw
    have e1 : fs.toList.map (·.type) = L := by
      have := congrArg (List.map Prod.fst) hT
      rw [List.map_map, List.map_fst_zip (by simp)] at this
      exact this
    rw [e1]; exact hi
  · exfalso
    have := congrArg List.length hT
    simp at this
    exact hL (List.eq_nil_of_length_eq_zero this.symm)

theorem u64_wf {n : Int} (h : (Lit.int .u64 n).wf = true) : 0 ≤ n ∧ n ≤ 18446744073709551615 := by
  have h2 : (IntKind.u64.min ≤ n ∧ n ≤ IntKind.u64.max) := by simpa [Lit.wf] using h
  exact h2

end
end Go.Vc
