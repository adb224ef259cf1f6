/- Equality of structs, a struct within one among them. -/
import Derived.Test.YthkbecpgbjejkaaDoorVcO
import Derived.Test.YthkbecpgbjejkaaDoorVcL
set_option maxRecDepth 10000
namespace Go.Vc
open Go Go.MapKept

def fieldsAre (P : Program) (t : TypeId) (L : List (TypeId × Nat)) : Bool := match P.underlying t with
  | some (.struct fs) => !P.stoodInHeld t && (fs.toList.all fun f => f.name != "_") && (fs.toList.map fun f => (f.type, f.offset)) == L
  | _ => false

/-- A field of both, and whether they are the same. -/
def Fld (P : Program) (k : Nat) (xs ys : Array Value) (s : TypeId × Nat) (b : Bool) : Prop :=
  ∃ x y, (∀ w : World, (part s.1 xs s.2).run P w = .ok x w) ∧ (∀ w : World, (part s.1 ys s.2).run P w = .ok y w) ∧ ∀ (d : Nat) (w : World), (Op.equalIn (d + k) s.1 x y).run P w = .ok b w

theorem eqFields_gen {P : Program} {k : Nat} (d : Nat) (xs ys : Array Value) : ∀ (fs : List Field) (bs : List Bool), bs.length = fs.length → (∀ f ∈ fs, f.name ≠ "_") →
    (∀ (j : Nat) (f : Field) (b : Bool), fs[j]? = some f → bs[j]? = some b → Fld P k xs ys (f.type, f.offset) b) → ∀ w : World, (Op.eqFields (d + k) xs ys fs).run P w = .ok (bs.all id) w := by
  intro fs
  induction fs with
  | nil =>
    intro bs hb _ _ w
    rw [List.eq_nil_of_length_eq_zero hb]
    simp [Op.eqFields]
  | cons f fs ih =>
    intro bs hb hn hf w
    obtain ⟨b, bs, rfl⟩ := List.exists_cons_of_length_eq_add_one hb
    obtain ⟨x, y, hx, hy, hq⟩ := hf 0 f b rfl rfl
    simp only [Op.eqFields, hn f (by simp), ne_eq, not_false_eq_true, if_true, Sem.run_bind, hx w, hy w, Result.andThen_ok, hq d w]
    cases b with
    | false => simp
    | true =>
      simp only [Bool.not_true, Bool.false_eq_true, if_false]
      rw [ih bs (by simpa using hb) (fun g hg => hn g (by simp [hg])) (fun j g b hg hb' => hf (j + 1) g b (by simpa using hg) (by simpa using hb')) w]
      simp

theorem eqvF {P : Program} {t : TypeId} {L : List (TypeId × Nat)} (hp : fieldsAre P t L = true) {k : Nat} {xs ys : Array Value} {bs : List Bool} (hb : bs.length = L.length)
    (h : ∀ (j : Nat) (s : TypeId × Nat) (b : Bool), L[j]? = some s → bs[j]? = some b → Fld P k xs ys s b) (d : Nat) (w : World) : (Op.equalIn (d + k + 1) t (.agg xs) (.agg ys)).run P w = .ok (bs.all id) w := by
  unfold fieldsAre at hp
  split at hp
  · rename_i fs hu
    simp only [Bool.and_eq_true, Bool.not_eq_true', beq_iff_eq] at hp
    obtain ⟨⟨hst, hnm⟩, hfs⟩ := hp
    have hfo : P.fieldsOf t = fs := by unfold Program.fieldsOf; rw [hu]
    rw [run_equalIn_struct w (d + k) t _ _ (by rw [hfo]; exact hu) hst, hfo]
    have hlen : fs.toList.length = L.length := by have := congrArg List.length hfs; simpa using this
    refine eqFields_gen d _ _ fs.toList bs (by omega) (fun f hf => by have := List.all_eq_true.1 hnm f hf; simpa using this) ?_ w
    intro j f b hj hbj
    exact h j _ b (by rw [← hfs, List.getElem?_map, hj]; rfl) hbj
  · cases hp

theorem eqvOf {P : Program} {t : TypeId} {x y : Value} {b : Bool} {k : Nat} (hk : k ≤ Op.maxDepth) (h : ∀ (d : Nat) (w : World), (Op.equalIn (d + k) t x y).run P w = .ok b w) : EqV P t x y b := fun w => by
  have := h (Op.maxDepth - k) w
  rw [Nat.sub_add_cancel hk] at this
  exact this

section
variable {P : Program} {xs ys : Array Value} {t : TypeId} {o : Nat}

theorem part_one {u : TypeDesc} (hu : P.underlying t = some u) (ha : aggD u = false) {v : Value} (hv : xs[o]? = some v) (w : World) : (part t xs o).run P w = .ok v w := by
  simp [part, run_isAgg hu, ha, hv]
theorem part_agg {u : TypeDesc} (hu : P.underlying t = some u) (ha : aggD u = true) {n : Nat} (hn : (P.info? t).map (·.size) = some n) (w : World) : (part t xs o).run P w = .ok (.agg (xs.extract o (o + n))) w := by
  cases hi : P.info? t with
  | none => simp [hi] at hn
  | some i =>
    rw [hi] at hn
    cases hn
    simp [part, run_isAgg hu, ha, sizeOf, typeInfo, hi]

theorem fld_int {k : IntKind} (hu : P.underlying t = some (.int k)) (a b : Int) (m : Nat) (hx : xs[o]? = some (.int k a)) (hy : ys[o]? = some (.int k b)) : Fld P (m + 1) xs ys (t, o) (decide (a = b)) :=
  ⟨_, _, part_one hu rfl hx, part_one hu rfl hy, fun d w => by rw [show d + (m + 1) = (d + m) + 1 by omega, run_equalIn_int w (d + m) _ _ _ _ _ hu]; rfl⟩
theorem fld_str (hu : P.underlying t = some .string) (a b : ByteArray) (m : Nat) (hx : xs[o]? = some (.string a)) (hy : ys[o]? = some (.string b)) : Fld P (m + 1) xs ys (t, o) (decide (a = b)) :=
  ⟨_, _, part_one hu rfl hx, part_one hu rfl hy, fun d w => by
    rw [show d + (m + 1) = (d + m) + 1 by omega, run_equalIn_string w (d + m) _ _ _ hu]
    first | rfl | (congr 1; exact eq_toList _ _) | simp⟩
theorem fld_agg {fs : Array Field} (hu : P.underlying t = some (.struct fs)) {n : Nat} (hn : (P.info? t).map (·.size) = some n) {k : Nat} {b : Bool} (h : ∀ (d : Nat) (w : World), (Op.equalIn (d + k) t (.agg (xs.extract o (o + n))) (.agg (ys.extract o (o + n)))).run P w = .ok b w) : Fld P k xs ys (t, o) b :=
  ⟨_, _, part_agg hu rfl hn, part_agg hu rfl hn, h⟩
end

/-- A struct's cells, set anew. -/
theorem all_set {h : Hp} {b : Nat} {t : TypeId} {vs : List Value} (c : h[b]? = some (.cells vs.toArray t)) (ws : List Value) (hl : ws.length = vs.length) :
    wrAt h b 0 ws.length ∧ (setsH h b 0 ws)[b]? = some (.cells ws.toArray t) := by
  refine ⟨wrAt_of c (by rw [hl]; simp) (.inl (Nat.zero_le _)), ?_⟩
  rw [setsH_at c, layC_all (by simpa using hl)]

theorem layC_toList {cs : Array Value} {k : Nat} {xs vs : List Value} (h : cs.toList.take k = xs) (hk : xs.length = k) (o : Nat) : (layC cs o vs).toList.take k = (layC xs.toArray o vs).toList := by
  have hl : k ≤ cs.size := by
    have := congrArg List.length h
    rw [List.length_take, hk] at this
    have e : cs.toList.length = cs.size := by simp
    omega
  apply List.ext_getElem?
  intro j
  by_cases hj : j < k
  · rw [List.getElem?_take_of_lt hj, Array.getElem?_toList, Array.getElem?_toList, layC_get (by omega), layC_get (by simpa using by omega)]
    have : xs.toArray[j]? = cs[j]? := by
      rw [← h]
      simp [List.getElem?_take_of_lt hj]
    rw [this]
  · rw [List.getElem?_eq_none (by rw [List.length_take]; omega), List.getElem?_eq_none (by
      have : (layC xs.toArray o vs).toList.length = xs.length := by
        have h2 : (layC xs.toArray o vs).size = xs.toArray.size := layC_size
        simpa using h2
      omega)]

/-- A struct is stored into a row of one's own. -/
theorem Own.storeS {h : Hp} {base : Nat} {e : TypeId} {z : Nat} {p : Option Addr} {n c : Nat} {xs : List Value} (o : Own h base e z (.slice p n c) n xs) {i : Nat} (hi : i < n) {vs : List Value} (hl : vs.length = z) (h1 : ∀ v ∈ vs, v.oneCell' = true) {K : Hp → Prop}
    (hK : ∀ h', Own h' base e z (.slice p n c) n (layC xs.toArray (i * z) vs).toList → Grown h h' (Value.slice p n c).ownBlock → h'.size = h.size → K h') :
    ∃ b q, p = some ⟨b, q, none⟩ ∧ 0 ≤ (i : Int) ∧ (i : Int) < n ∧ vs.length = z ∧ (∀ v ∈ vs, v.oneCell' = true) ∧ wrAt h b (q + Int.toNat (i : Int) * z) z ∧ ∀ h', h' = setsH h b (q + Int.toNat (i : Int) * z) vs → K h' := by
  rcases o.2 with ⟨hn, h0⟩ | ⟨g, cap, cur, hv, hb, hg, hnc, hcm, hcs, ht⟩
  · omega
  · cases hv
    have hle : i * z + z ≤ cur.size := by
      rw [hcs]
      have : (i + 1) * z ≤ c * z := Nat.mul_le_mul_right z (by omega)
      rwa [Nat.succ_mul] at this
    refine ⟨g, 0, rfl, by omega, by omega, hl, h1, ?_, ?_⟩
    · exact wrAt_of (show h[g]? = _ from hg) (by rw [Int.toNat_natCast]; omega) (.inl (Nat.zero_le _))
    · rintro h' rfl
      rw [Int.toNat_natCast, Nat.zero_add]
      refine hK _ ⟨?_, .inr ⟨g, c, layC cur (i * z) vs, rfl, hb, ?_, hnc, hcm, by rw [layC_size]; exact hcs, ?_⟩⟩ ⟨by rw [setsH_size]; exact Nat.le_refl _, fun k _ hne => setsH_ne (fun e => hne (by rw [e]; rfl))⟩ setsH_size
      · have h2 : (layC xs.toArray (i * z) vs).size = xs.toArray.size := layC_size
        have := o.1
        simp only [Array.length_toList, h2]
        simpa using this
      · exact setsH_at (show h[g]? = _ from hg)
      · exact layC_toList ht o.1 _

theorem layC_first {x y v : List Value} (h : v.length = x.length) : (layC (x ++ y).toArray 0 v).toList = v ++ y := by
  apply List.ext_getElem?
  intro j
  by_cases hj : j < (x ++ y).length
  · rw [Array.getElem?_toList, layC_get (by simpa using hj)]
    by_cases hv : j < v.length
    · rw [if_pos ⟨Nat.zero_le _, by omega⟩, List.getElem?_append_left hv, Nat.sub_zero]
    · rw [if_neg (by omega), List.getElem?_toArray, List.getElem?_append_right (by omega), List.getElem?_append_right (by omega), h]
  · have h2 : (layC (x ++ y).toArray 0 v).size = (x ++ y).toArray.size := layC_size
    rw [List.getElem?_eq_none (by simp only [Array.length_toList, h2]; simpa using hj), List.getElem?_eq_none (by simp only [List.length_append] at hj ⊢; omega)]

theorem layC_second {x y v : List Value} (h : v.length = y.length) {k : Nat} (hk : k = x.length) : (layC (x ++ y).toArray k v).toList = x ++ v := by
  subst hk
  apply List.ext_getElem?
  intro j
  by_cases hj : j < (x ++ y).length
  · have hj' := hj
    rw [List.length_append] at hj'
    rw [Array.getElem?_toList, layC_get (by simpa using hj)]
    by_cases hv : j < x.length
    · rw [if_neg (by omega), List.getElem?_toArray, List.getElem?_append_left hv, List.getElem?_append_left hv]
    · rw [if_pos (by omega), List.getElem?_append_right (by omega)]
  · have h2 : (layC (x ++ y).toArray x.length v).size = (x ++ y).toArray.size := layC_size
    rw [List.getElem?_eq_none (by simp only [Array.length_toList, h2]; simpa using hj), List.getElem?_eq_none (by simp only [List.length_append] at hj ⊢; omega)]

end Go.Vc
