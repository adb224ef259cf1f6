import Derived.Test.YtamhpfdcnfgngaaGreatVcG
import Derived.Test.YtamhpfdcnfgngaaGreatVcO
import Derived.Test.YtamhpfdcnfgngaaGreatVcL
set_option maxRecDepth 10000
/- Values of 128 bits as two words: masks. -/
namespace Go.Vc
open Go

abbrev B128 := BitVec 128
def hiW (x : B128) : BitVec 64 := (x >>> 64).setWidth 64
def loW (x : B128) : BitVec 64 := x.setWidth 64
abbrev vW (x : BitVec 64) : Value := .int .u64 (x.toNat : Int)
abbrev bitsL (x : B128) : List Value := [vW (hiW x), vW (loW x)]
abbrev vB (x : B128) : Value := .agg #[vW (hiW x), vW (loW x)]

def onesB (n : Nat) : B128 := BitVec.allOnes 128 >>> (128 - n)
def msk (w n : Nat) : B128 := onesB w &&& ~~~ onesB (w - n)

theorem hi_get (x : B128) (i : Nat) : (hiW x).getLsbD i = (decide (i < 64) && x.getLsbD (64 + i)) := by
  simp [hiW, BitVec.getLsbD_setWidth, BitVec.getLsbD_ushiftRight]
theorem lo_get (x : B128) (i : Nat) : (loW x).getLsbD i = (decide (i < 64) && x.getLsbD i) := by
  simp [loW, BitVec.getLsbD_setWidth]

theorem bits_eq {x y : B128} (h1 : hiW x = hiW y) (h2 : loW x = loW y) : x = y := by
  apply BitVec.eq_of_getLsbD_eq
  intro i hi
  by_cases h : i < 64
  · have := congrArg (fun z => z.getLsbD i) h2
    simpa [-BitVec.getLsbD_eq_getElem, lo_get, h] using this
  · have := congrArg (fun z => z.getLsbD (i - 64)) h1
    have e : 64 + (i - 64) = i := by omega
    simp only [hi_get, e] at this
    simpa [-BitVec.getLsbD_eq_getElem, show i - 64 < 64 by omega] using this

theorem bits_inj {x y : B128} : x = y ↔ hiW x = hiW y ∧ loW x = loW y := ⟨fun h => by rw [h]; exact ⟨rfl, rfl⟩, fun h => bits_eq h.1 h.2⟩

def mkB (a b : BitVec 64) : B128 := (a.setWidth 128 <<< 64) ||| b.setWidth 128
theorem hi_mk (a b : BitVec 64) : hiW (mkB a b) = a := by
  apply BitVec.eq_of_getLsbD_eq
  intro i hi
  have h2 : b.getLsbD (64 + i) = false := BitVec.getLsbD_of_ge _ _ (by omega)
  simp [-BitVec.getLsbD_eq_getElem, hi_get, mkB, hi, h2, BitVec.getLsbD_setWidth, show ¬ 64 + i < 64 by omega, show i < 128 by omega, show 64 + i < 128 by omega]
theorem lo_mk (a b : BitVec 64) : loW (mkB a b) = b := by
  apply BitVec.eq_of_getLsbD_eq
  intro i hi
  simp [-BitVec.getLsbD_eq_getElem, lo_get, mkB, hi, BitVec.getLsbD_setWidth, show i < 128 by omega]

theorem hi_and (a b : B128) : hiW (a &&& b) = hiW a &&& hiW b := by
  apply BitVec.eq_of_getLsbD_eq; intro i hi; simp [-BitVec.getLsbD_eq_getElem, hi_get, hi]
theorem lo_and (a b : B128) : loW (a &&& b) = loW a &&& loW b := by
  apply BitVec.eq_of_getLsbD_eq; intro i hi; simp [-BitVec.getLsbD_eq_getElem, lo_get, hi]
theorem hi_not (a : B128) : hiW (~~~a) = ~~~(hiW a) := by
  apply BitVec.eq_of_getLsbD_eq; intro i hi; simp [-BitVec.getLsbD_eq_getElem, hi_get, hi, show 64 + i < 128 by omega]
theorem lo_not (a : B128) : loW (~~~a) = ~~~(loW a) := by
  apply BitVec.eq_of_getLsbD_eq; intro i hi; simp [-BitVec.getLsbD_eq_getElem, lo_get, hi, show i < 128 by omega]

theorem hi_shr_big (a : B128) {n : Nat} (h : 64 ≤ n) : hiW (a >>> n) = 0 := by
  apply BitVec.eq_of_getLsbD_eq; intro i hi
  simp [-BitVec.getLsbD_eq_getElem, hi_get, hi, BitVec.getLsbD_ushiftRight]
  exact BitVec.getLsbD_of_ge _ _ (by omega)
theorem lo_shr_big (a : B128) {n : Nat} (h : 64 ≤ n) : loW (a >>> n) = hiW a >>> (n - 64) := by
  apply BitVec.eq_of_getLsbD_eq; intro i hi
  simp only [lo_get, hi_get, hi, BitVec.getLsbD_ushiftRight, decide_true, Bool.true_and]
  rw [show 64 + (n - 64 + i) = n + i by omega]
  by_cases h2 : n - 64 + i < 64
  · simp [-BitVec.getLsbD_eq_getElem, h2]
  · simp [-BitVec.getLsbD_eq_getElem, h2]; exact BitVec.getLsbD_of_ge _ _ (by omega)
theorem hi_shr_low (a : B128) (n : Nat) : hiW (a >>> n) = hiW a >>> n := by
  apply BitVec.eq_of_getLsbD_eq; intro i hi
  simp only [hi_get, hi, BitVec.getLsbD_ushiftRight, decide_true, Bool.true_and]
  rw [show n + (64 + i) = 64 + (n + i) by omega]
  by_cases h2 : n + i < 64
  · simp [-BitVec.getLsbD_eq_getElem, h2]
  · simp [-BitVec.getLsbD_eq_getElem, h2]; exact BitVec.getLsbD_of_ge _ _ (by omega)
theorem lo_shr_low (a : B128) {n : Nat} (h : n < 64) : loW (a >>> n) = loW a >>> n ||| hiW a <<< (64 - n) := by
  apply BitVec.eq_of_getLsbD_eq; intro i hi
  simp only [lo_get, hi_get, hi, BitVec.getLsbD_ushiftRight, BitVec.getLsbD_or, BitVec.getLsbD_shiftLeft, decide_true, Bool.true_and]
  by_cases h2 : n + i < 64
  · simp [-BitVec.getLsbD_eq_getElem, h2, show i < 64 - n by omega]
  · simp [-BitVec.getLsbD_eq_getElem, h2, show ¬ i < 64 - n by omega, show i - (64 - n) < 64 by omega]
    congr 1; omega
theorem hi_shl_big (a : B128) {n : Nat} (h : 64 ≤ n) : hiW (a <<< n) = loW a <<< (n - 64) := by
  apply BitVec.eq_of_getLsbD_eq; intro i hi
  simp only [lo_get, hi_get, hi, BitVec.getLsbD_shiftLeft, decide_true, Bool.true_and, show 64 + i < 128 by omega]
  by_cases h2 : 64 + i < n
  · simp [-BitVec.getLsbD_eq_getElem, h2, show i < n - 64 by omega]
  · simp [-BitVec.getLsbD_eq_getElem, h2, show ¬ i < n - 64 by omega, show i - (n - 64) < 64 by omega]
    congr 1; omega
theorem lo_shl_big (a : B128) {n : Nat} (h : 64 ≤ n) : loW (a <<< n) = 0 := by
  apply BitVec.eq_of_getLsbD_eq; intro i hi
  simp [-BitVec.getLsbD_eq_getElem, lo_get, hi, BitVec.getLsbD_shiftLeft, show i < n by omega]
theorem lo_shl_low (a : B128) (n : Nat) : loW (a <<< n) = loW a <<< n := by
  apply BitVec.eq_of_getLsbD_eq; intro i hi
  simp only [lo_get, hi, BitVec.getLsbD_shiftLeft, decide_true, Bool.true_and, show i < 128 by omega]
  simp [-BitVec.getLsbD_eq_getElem, show i - n < 64 by omega]
theorem hi_shl_low (a : B128) {n : Nat} (h : n < 64) : hiW (a <<< n) = hiW a <<< n ||| loW a >>> (64 - n) := by
  apply BitVec.eq_of_getLsbD_eq; intro i hi
  simp only [lo_get, hi_get, hi, BitVec.getLsbD_ushiftRight, BitVec.getLsbD_or, BitVec.getLsbD_shiftLeft, decide_true, Bool.true_and, show 64 + i < 128 by omega]
  by_cases h2 : i < n
  · simp [-BitVec.getLsbD_eq_getElem, h2, show ¬ 64 + i < n by omega, show 64 - n + i < 64 by omega]
    congr 1; omega
  · simp [-BitVec.getLsbD_eq_getElem, h2, show ¬ 64 + i < n by omega, show ¬ 64 - n + i < 64 by omega, show i - n < 64 by omega]
    congr 1; omega

/-! ### Ones -/

theorem ones_hi : ∀ n : Fin 129, 64 < n.1 → (hiW (onesB n)).toNat = 2 ^ (n.1 - 64) - 1 ∧ (loW (onesB n)).toNat = 18446744073709551615 := by decide +kernel
theorem ones_lo : ∀ n : Fin 129, n.1 ≤ 64 → (hiW (onesB n)).toNat = 0 ∧ (loW (onesB n)).toNat = 2 ^ n.1 - 1 := by decide +kernel
theorem all_hi : hiW (BitVec.allOnes 128) = BitVec.allOnes 64 := by decide +kernel
theorem all_lo : loW (BitVec.allOnes 128) = BitVec.allOnes 64 := by decide +kernel
theorem mask_left : ∀ w : Fin 129, ∀ n : Fin 129, n.1 ≤ w.1 → onesB n <<< (w.1 - n.1) = msk w n := by decide +kernel

/-! ### Words -/

theorem or64 (a b : BitVec 64) : orI .u64 (a.toNat : Int) (b.toNat : Int) = ((a ||| b).toNat : Int) := by
  unfold orI
  rw [show IntKind.u64.bits = 64 from rfl, ofIntWord, ofIntWord]
  exact wrapWord64 _
theorem clr64 (a b : BitVec 64) : clrI .u64 (a.toNat : Int) (b.toNat : Int) = ((a &&& ~~~b).toNat : Int) := by
  unfold clrI
  rw [show IntKind.u64.bits = 64 from rfl, ofIntWord, ofIntWord]
  exact wrapWord64 _
theorem shl64 (a : BitVec 64) (n : Nat) (h : n ≤ 64) : shlI .u64 (a.toNat : Int) (n : Int) = ((a <<< n).toNat : Int) := by
  unfold shlI
  rw [show min (n : Int).toNat IntKind.u64.bits = n by simp [IntKind.bits]; omega, wrapU64, BitVec.toNat_shiftLeft, Nat.shiftLeft_eq]
  simp

theorem pow_less {k : Nat} (h : k ≤ 64) : IntKind.u64.wrap (shlI .u64 (1 : Int) (k : Int) - 1) = ((2 ^ k - 1 : Nat) : Int) := by
  have : ∀ k : Fin 65, IntKind.u64.wrap (shlI .u64 (1 : Int) (k.1 : Int) - 1) = ((2 ^ k.1 - 1 : Nat) : Int) := by decide +kernel
  exact this ⟨k, by omega⟩

end Go.Vc

/- Equality of structs, a struct within one among them. -/
namespace Go.Vc
open Go Go.MapKept

def fieldsAre (P : Program) (t : TypeId) (L : List (TypeId × Nat)) : Bool := match P.underlying t with
  | some (.struct fs) => !P.stoodInHeld t && (fs.toList.all fun f => f.name != "_") && (fs.toList.map fun f => (f.type, f.offset)) == L
  | _ => false

def Fld (P : Program) (k : Nat) (xs ys : Array Value) (s : TypeId × Nat) (b : Bool) : Prop :=
  ∃ x y, (∀ w : World, (part s.1 xs s.2).run P w = .ok x w) ∧ (∀ w : World, (part s.1 ys s.2).run P w = .ok y w) ∧ ∀ (d : Nat) (w : World), (Op.equalIn (d + k) s.1 x y).run P w = .ok b w

theorem eqFields_gen {P : Program} {k : Nat} (d : Nat) (xs ys : Array Value) : ∀ (fs : List Field) (bs : List Bool), bs.length = fs.length → (∀ f ∈ fs, f.name ≠ "_") →
    (∀ (j : Nat) (f : Field) (b : Bool), fs[j]? = some f → bs[j]? = some b → Fld P k xs ys (f.type, f.offset) b) → ∀ w : World, (Op.eqFields (d + k) xs ys fs).run P w = .ok (bs.all id) w := by
  intro fs
  induction fs with
  | nil =>
    intro bs hb _ _ w
    rw [List.eq_nil_of_length_eq_zero hb]
    simp [Op.eqFields]
  | cons f fs ih =>
    intro bs hb hn hf w
    obtain ⟨b, bs, rfl⟩ := List.exists_cons_of_length_eq_add_one hb
    obtain ⟨x, y, hx, hy, hq⟩ := hf 0 f b rfl rfl
    simp only [Op.eqFields, hn f (by simp), ne_eq, not_false_eq_true, if_true, Sem.run_bind, hx w, hy w, Result.andThen_ok, hq d w]
    cases b with
    | false => simp
    | true =>
      simp only [Bool.not_true, Bool.false_eq_true, if_false]
      rw [ih bs (by simpa using hb) (fun g hg => hn g (by simp [hg])) (fun j g b hg hb' => hf (j + 1) g b (by simpa using hg) (by simpa using hb')) w]
      simp

theorem eqvF {P : Program} {t : TypeId} {L : List (TypeId × Nat)} (hp : fieldsAre P t L = true) {k : Nat} {xs ys : Array Value} {bs : List Bool} (hb : bs.length = L.length)
    (h : ∀ (j : Nat) (s : TypeId × Nat) (b : Bool), L[j]? = some s → bs[j]? = some b → Fld P k xs ys s b) (d : Nat) (w : World) : (Op.equalIn (d + k + 1) t (.agg xs) (.agg ys)).run P w = .ok (bs.all id) w := by
  unfold fieldsAre at hp
  split at hp
  · rename_i fs hu
    simp only [Bool.and_eq_true, Bool.not_eq_true', beq_iff_eq] at hp
    obtain ⟨⟨hst, hnm⟩, hfs⟩ := hp
    have hfo : P.fieldsOf t = fs := by unfold Program.fieldsOf; rw [hu]
    rw [run_equalIn_struct w (d + k) t _ _ (by rw [hfo]; exact hu) hst, hfo]
    have hlen : fs.toList.length = L.length := by have := congrArg List.length hfs; simpa using this
    refine eqFields_gen d _ _ fs.toList bs (by omega) (fun f hf => by have := List.all_eq_true.1 hnm f hf; simpa using this) ?_ w
    intro j f b hj hbj
    exact h j _ b (by rw [← hfs, List.getElem?_map, hj]; rfl) hbj
  · cases hp

theorem eqvOf {P : Program} {t : TypeId} {x y : Value} {b : Bool} {k : Nat} (hk : k ≤ Op.maxDepth) (h : ∀ (d : Nat) (w : World), (Op.equalIn (d + k) t x y).run P w = .ok b w) : EqV P t x y b := fun w => by
  have := h (Op.maxDepth - k) w
  rw [Nat.sub_add_cancel hk] at this
  exact this

section
variable {P : Program} {xs ys : Array Value} {t : TypeId} {o : Nat}

theorem part_one {u : TypeDesc} (hu : P.underlying t = some u) (ha : aggD u = false) {v : Value} (hv : xs[o]? = some v) (w : World) : (part t xs o).run P w = .ok v w := by
  simp [part, run_isAgg hu, ha, hv]
theorem part_agg {u : TypeDesc} (hu : P.underlying t = some u) (ha : aggD u = true) {n : Nat} (hn : (P.info? t).map (·.size) = some n) (w : World) : (part t xs o).run P w = .ok (.agg (xs.extract o (o + n))) w := by
  cases hi : P.info? t with
  | none => simp [hi] at hn
  | some i =>
    rw [hi] at hn
    cases hn
    simp [part, run_isAgg hu, ha, sizeOf, typeInfo, hi]

theorem fld_int {k : IntKind} (hu : P.underlying t = some (.int k)) (a b : Int) (m : Nat) (hx : xs[o]? = some (.int k a)) (hy : ys[o]? = some (.int k b)) : Fld P (m + 1) xs ys (t, o) (decide (a = b)) :=
  ⟨_, _, part_one hu rfl hx, part_one hu rfl hy, fun d w => by rw [show d + (m + 1) = (d + m) + 1 by omega, run_equalIn_int w (d + m) _ _ _ _ _ hu]; rfl⟩
theorem fld_agg {fs : Array Field} (hu : P.underlying t = some (.struct fs)) {n : Nat} (hn : (P.info? t).map (·.size) = some n) {k : Nat} {b : Bool} (h : ∀ (d : Nat) (w : World), (Op.equalIn (d + k) t (.agg (xs.extract o (o + n))) (.agg (ys.extract o (o + n)))).run P w = .ok b w) : Fld P k xs ys (t, o) b :=
  ⟨_, _, part_agg hu rfl hn, part_agg hu rfl hn, h⟩
end

theorem layC_toList {cs : Array Value} {k : Nat} {xs vs : List Value} (h : cs.toList.take k = xs) (hk : xs.length = k) (o : Nat) : (layC cs o vs).toList.take k = (layC xs.toArray o vs).toList := by
  have hl : k ≤ cs.size := by
    have := congrArg List.length h
    rw [List.length_take, hk] at this
    have e : cs.toList.length = cs.size := by simp
    omega
  apply List.ext_getElem?
  intro j
  by_cases hj : j < k
  · rw [List.getElem?_take_of_lt hj, Array.getElem?_toList, Array.getElem?_toList, layC_get (by omega), layC_get (by simpa using by omega)]
    have : xs.toArray[j]? = cs[j]? := by
      rw [← h]
      simp [List.getElem?_take_of_lt hj]
    rw [this]
  · rw [List.getElem?_eq_none (by rw [List.length_take]; omega), List.getElem?_eq_none (by
      have : (layC xs.toArray o vs).toList.length = xs.length := by
        have h2 : (layC xs.toArray o vs).size = xs.toArray.size := layC_size
        simpa using h2
      omega)]

theorem Own.storeS {h : Hp} {base : Nat} {e : TypeId} {z : Nat} {p : Option Addr} {n c : Nat} {xs : List Value} (o : Own h base e z (.slice p n c) n xs) {i : Nat} (hi : i < n) {vs : List Value} (hl : vs.length = z) (h1 : ∀ v ∈ vs, v.oneCell' = true) {K : Hp → Prop}
    (hK : ∀ h', Own h' base e z (.slice p n c) n (layC xs.toArray (i * z) vs).toList → Grown h h' (Value.slice p n c).ownBlock → h'.size = h.size → K h') :
    ∃ b q, p = some ⟨b, q, none⟩ ∧ 0 ≤ (i : Int) ∧ (i : Int) < n ∧ vs.length = z ∧ (∀ v ∈ vs, v.oneCell' = true) ∧ wrAt h b (q + Int.toNat (i : Int) * z) z ∧ ∀ h', h' = setsH h b (q + Int.toNat (i : Int) * z) vs → K h' := by
  rcases o.2 with ⟨hn, h0⟩ | ⟨g, cap, cur, hv, hb, hg, hnc, hcm, hcs, ht⟩
  · omega
  · cases hv
    have hle : i * z + z ≤ cur.size := by
      rw [hcs]
      have : (i + 1) * z ≤ c * z := Nat.mul_le_mul_right z (by omega)
      rwa [Nat.succ_mul] at this
    refine ⟨g, 0, rfl, by omega, by omega, hl, h1, ?_, ?_⟩
    · exact wrAt_of (show h[g]? = _ from hg) (by rw [Int.toNat_natCast]; omega) (.inl (Nat.zero_le _))
    · rintro h' rfl
      rw [Int.toNat_natCast, Nat.zero_add]
      refine hK _ ⟨?_, .inr ⟨g, c, layC cur (i * z) vs, rfl, hb, ?_, hnc, hcm, by rw [layC_size]; exact hcs, ?_⟩⟩ ⟨by rw [setsH_size]; exact Nat.le_refl _, fun k _ hne => setsH_ne (fun e => hne (by rw [e]; rfl))⟩ setsH_size
      · have h2 : (layC xs.toArray (i * z) vs).size = xs.toArray.size := layC_size
        have := o.1
        simp only [Array.length_toList, h2]
        simpa using this
      · exact setsH_at (show h[g]? = _ from hg)
      · exact layC_toList ht o.1 _

end Go.Vc

