/- Facts about the conditions: objects behind pointers, what a call may touch, rows that are made, rows of structs. -/
import Derived.Test.YtamhpfdcnfgngaaGreatVcH
import Derived.Lib.AppendStr
import Derived.Laws.MakeOwn
import Derived.Laws.StructEq
set_option maxRecDepth 10000
namespace Go.Vc
open Go

abbrev vI (n : Nat) : Value := .int .i64 (n : Int)
abbrev vZ (n : Int) : Value := .int .i64 n
abbrev vP (d : Nat) : Value := .pointer (some ⟨d, 0, none⟩)

theorem incI {i : Nat} (h : i < 9223372036854775807) : IntKind.i64.wrap ((i : Int) + 1) = ((i + 1 : Nat) : Int) := wrapI64 (by omega) (by omega)

def RetX (v : Value) (h : Hp) : Ending → Hp → Prop := fun e h' => e = .returned v ∧ Ext h h'

/-! ## Equality of pointers -/

theorem eqv_of {P : Program} {t : TypeId} {x y : Value} {b : Bool} (h : ∀ d (w : World), (Op.equalIn (d + 1) t x y).run P w = .ok b w) : EqV P t x y b := by
  intro w
  obtain ⟨d, hd⟩ : ∃ d, Op.maxDepth = d + 1 := ⟨Op.maxDepth - 1, by decide⟩
  unfold Op.equal
  rw [hd]
  exact h d w

theorem eqv_ptr {P : Program} {t e : TypeId} (ht : P.underlying t = some (.pointer e)) (a : Addr) : EqV P t (.pointer (some a)) (.pointer none) false :=
  eqv_of fun d w => by
    rw [Op.equalIn]
    simp only [Sem.run_bind, run_underlying ht, Result.andThen_ok, Sem.run_pure]

theorem eqv_nil {P : Program} {t e : TypeId} (ht : P.underlying t = some (.pointer e)) : EqV P t (.pointer none) (.pointer none) true :=
  eqv_of fun d w => by
    rw [Op.equalIn]
    simp only [Sem.run_bind, run_underlying ht, Result.andThen_ok, Sem.run_pure, Option.isNone_none]

theorem eqv_bool {P : Program} {t : TypeId} (ht : P.underlying t = some .bool) (a b : Bool) : EqV P t (.bool a) (.bool b) (a == b) :=
  eqv_of fun d w => by
    rw [Op.equalIn]
    simp only [Sem.run_bind, run_underlying ht, Result.andThen_ok, Sem.run_pure]

def intStruct (P : Program) (t : TypeId) (n : Nat) : Bool := match P.underlying t with
  | some (.struct fs) => !P.stoodInHeld t && (Nat.beq fs.toList.length n && (fs.toList.zip (List.range n)).all fun x => (x.1.name != "_") && (Nat.beq x.1.offset x.2 && (match P.underlying x.1.type with | some (.int _) => true | _ => false)))
  | _ => false

theorem eqFields_ints {P : Program} (d : Nat) (xs ys : Array Value) : ∀ (fs : List Field) (i : Nat) (as bs : List Int) (ks : List IntKind), (∀ j f, fs[j]? = some f → f.name ≠ "_" ∧ f.offset = i + j ∧ ∃ k, P.underlying f.type = some (.int k)) →
    as.length = fs.length → bs.length = fs.length → ks.length = fs.length → (∀ j (a b : Int) (k : IntKind), as[j]? = some a → bs[j]? = some b → ks[j]? = some k → xs[i + j]? = some (.int k a) ∧ ys[i + j]? = some (.int k b)) → ∀ w : World, (Op.eqFields (d + 1) xs ys fs).run P w = .ok (decide (as = bs)) w := by
  intro fs
  induction fs with
  | nil =>
    intro i as bs ks _ ha hb _ _ w
    rw [List.eq_nil_of_length_eq_zero ha, List.eq_nil_of_length_eq_zero hb]
    simp [Op.eqFields]
  | cons f fs ih =>
    intro i as bs ks hf ha hb hk hv w
    obtain ⟨a, as, rfl⟩ := List.exists_cons_of_length_eq_add_one ha
    obtain ⟨b, bs, rfl⟩ := List.exists_cons_of_length_eq_add_one hb
    obtain ⟨k, ks, rfl⟩ := List.exists_cons_of_length_eq_add_one hk
    obtain ⟨h1, h2, ⟨k', h4⟩⟩ := hf 0 f rfl
    obtain ⟨hx, hy⟩ := hv 0 a b k rfl rfl rfl
    rw [Nat.add_zero] at h2 hx hy
    have pt : ∀ (zs : Array Value) (v : Value), zs[i]? = some v → (part f.type zs f.offset).run P w = .ok v w := by
      intro zs v hz
      rw [h2]
      simp [part, run_isAgg h4, aggD, hz]
    simp only [Op.eqFields, h1, ne_eq, not_false_eq_true, if_true, Sem.run_bind, pt xs _ hx, pt ys _ hy, Result.andThen_ok, run_equalIn_int w d f.type k k' a b h4]
    by_cases hab : a = b
    · subst hab
      simp only [beq_self_eq_true, Bool.not_true, Bool.false_eq_true, if_false]
      rw [ih (i + 1) as bs ks (fun j g hg => by have := hf (j + 1) g hg; rw [show i + 1 + j = i + (j + 1) by omega]; exact this) (by simpa using ha) (by simpa using hb) (by simpa using hk)
        (fun j a b k h1 h2 h3 => by rw [show i + 1 + j = i + (j + 1) by omega]; exact hv (j + 1) a b k h1 h2 h3) w]
      simp
    · have : (a == b) = false := by simpa using hab
      simp [this, hab]


theorem eqv_ints {P : Program} {t : TypeId} {n : Nat} {k : IntKind} (h : intStruct P t n = true) (as bs : List Int) (ha : as.length = n) (hb : bs.length = n) : EqV P t (.agg (as.map (Value.int k)).toArray) (.agg (bs.map (Value.int k)).toArray) (decide (as = bs)) := by
  intro w
  unfold intStruct at h
  split at h
  · rename_i fs hu
    simp only [Bool.and_eq_true, Bool.not_eq_true', Nat.beq_eq] at h
    obtain ⟨hp, hn, hall⟩ := h
    have hfo : P.fieldsOf t = fs := by unfold Program.fieldsOf; rw [hu]
    obtain ⟨d, hd⟩ : ∃ d, Op.maxDepth = d + 1 + 1 := ⟨Op.maxDepth - 2, by decide⟩
    unfold Op.equal
    rw [hd, run_equalIn_struct w (d + 1) t _ _ (by rw [hfo]; exact hu) hp, hfo]
    refine eqFields_ints d _ _ fs.toList 0 as bs (List.replicate n k) ?_ (by omega) (by omega) (by rw [List.length_replicate]; omega) ?_ w
    · intro j f hj
      have hjl := (List.getElem?_eq_some_iff.1 hj).1
      have hm : (f, j) ∈ fs.toList.zip (List.range n) := by
        refine List.mem_of_getElem? (i := j) ?_
        rw [List.getElem?_zip_eq_some]
        exact ⟨hj, by rw [List.getElem?_range (by omega)]⟩
      have := List.all_eq_true.1 hall _ hm
      simp only [Bool.and_eq_true, Nat.beq_eq, bne_iff_ne, ne_eq] at this
      refine ⟨this.1, by omega, ?_⟩
      have h3 := this.2.2
      split at h3
      · rename_i k' hk'; exact ⟨k', hk'⟩
      · cases h3
    · intro j a b k' hja hjb hjk
      have hk' : k' = k := by
        have := List.mem_of_getElem? hjk
        exact List.eq_of_mem_replicate this
      subst hk'
      simp [hja, hjb]
  · cases h

/-! ## What a call may touch -/

structure Same (B : Nat → Prop) (h h' : Hp) : Prop where
  size : h.size ≤ h'.size
  old : ∀ b, b < h.size → ¬ B b → h'[b]? = h[b]?

def GrowB (B : Nat → Prop) (h h' : Hp) (b : Nat) : Prop := B b ∨ (h.size ≤ b ∧ b < h'.size)

abbrev NoB : Nat → Prop := fun _ => False

theorem Same.refl (B : Nat → Prop) (h : Hp) : Same B h h := ⟨Nat.le_refl _, fun _ _ _ => rfl⟩
theorem Same.trans {B C : Nat → Prop} {a b c : Hp} (h : Same B a b) (k : Same C b c) (hC : ∀ x, C x → x < a.size → B x) : Same B a c :=
  ⟨Nat.le_trans h.size k.size, fun i hi hn => (k.old i (Nat.lt_of_lt_of_le hi h.size) fun hc => hn (hC i hc hi)).trans (h.old i hi hn)⟩
theorem Same.more {B C : Nat → Prop} {a b : Hp} (h : Same B a b) (hC : ∀ x, B x → x < a.size → C x) : Same C a b :=
  ⟨h.size, fun i hi hn => h.old i hi fun hb => hn (hC i hb hi)⟩
theorem Ext.same {a b : Hp} (h : Ext a b) (B : Nat → Prop) : Same B a b := ⟨h.size, fun i hi _ => h.old i hi⟩
theorem Ext.over {B : Nat → Prop} {a b c : Hp} (h : Ext a b) (k : Same B b c) (hB : ∀ x, B x → a.size ≤ x) : Ext a c :=
  ⟨Nat.le_trans h.size k.size, fun i hi => (k.old i (Nat.lt_of_lt_of_le hi h.size) fun hb => by have := hB i hb; omega).trans (h.old i hi)⟩
theorem GrowB.old {B : Nat → Prop} {a b : Hp} {n : Nat} (hB : ∀ x, B x → n ≤ x) (hn : n ≤ a.size) : ∀ x, GrowB B a b x → n ≤ x := by
  rintro x (h | h)
  · exact hB x h
  · omega
theorem GrowB.lt {B : Nat → Prop} {a b : Hp} (hB : ∀ x, B x → x < a.size) (hs : a.size ≤ b.size) : ∀ x, GrowB B a b x → x < b.size := by
  rintro x (h | h)
  · have := hB x h; omega
  · exact h.2

theorem Seg.keep {h h' : Hp} {p : Option Addr} {n : Nat} {xs : List Value} (s : Seg h p n xs) (k : ∀ b o, p = some ⟨b, o, none⟩ → xs ≠ [] → h'[b]? = h[b]?) : Seg h' p n xs := by
  refine ⟨s.1, ?_⟩
  by_cases h0 : xs = []
  · exact .inl h0
  · rcases s.2 with hs | ⟨b, o, hp, hc⟩
    · exact .inl hs
    · exact .inr ⟨b, o, hp, cellsAt_congr (k b o hp h0) hc⟩

theorem Own.keep {h h' : Hp} {base : Nat} {e : TypeId} {size : Nat} {v : Value} {n : Nat} {xs : List Value} (o : Own h base e size v n xs) (k : ∀ b, v.ownBlock = some b → h'[b]? = h[b]?) : Own h' base e size v n xs := by
  refine ⟨o.1, ?_⟩
  rcases o.2 with hn | ⟨b, cap, cur, rfl, hb, hg, rest⟩
  · exact .inl hn
  · refine .inr ⟨b, cap, cur, rfl, hb, ?_, rest⟩
    show h'[b]? = _
    rw [k b rfl]; exact hg

theorem Own.blk {h : Hp} {base : Nat} {e : TypeId} {size : Nat} {v : Value} {n : Nat} {xs : List Value} (o : Own h base e size v n xs) {b : Nat} (hb : v.ownBlock = some b) : ∃ cur, h[b]? = some (.cells cur e) := by
  rcases o.2 with ⟨rfl, _⟩ | ⟨g, cap, cur, rfl, _, hg, _⟩
  · cases hb
  · cases hb; exact ⟨cur, hg⟩

theorem Own.max {h : Hp} {base : Nat} {e : TypeId} {size : Nat} {v : Value} {n : Nat} {xs : List Value} (o : Own h base e size v n xs) : n ≤ 9223372036854775807 := by
  rcases o.2 with ⟨_, h0⟩ | ⟨g, cap, cur, _, _, _, hnc, hcm, _⟩
  · omega
  · have : cap ≤ 9223372036854775807 := hcm
    omega

theorem Own.rebase {h : Hp} {base base' : Nat} {e : TypeId} {size : Nat} {v : Value} {n : Nat} {xs : List Value} (o : Own h base e size v n xs) (hb : ∀ b, v.ownBlock = some b → base' ≤ b) : Own h base' e size v n xs := by
  refine ⟨o.1, ?_⟩
  rcases o.2 with hn | ⟨b, cap, cur, rfl, hbb, hg⟩
  · exact .inl hn
  · exact .inr ⟨b, cap, cur, rfl, hb b rfl, hg⟩

theorem Grown.same {h h' : Hp} {row : Option Nat} (g : Grown h h' row) (B : Nat → Prop) (hr : ∀ b, row = some b → B b) : Same B h h' :=
  ⟨g.size, fun b hb hn => g.block b hb fun e => hn (hr b e.symm)⟩

theorem setsH_same {h : Hp} {b o : Nat} {vs : List Value} {B : Nat → Prop} (hB : B b) : Same B h (setsH h b o vs) :=
  ⟨Nat.le_of_eq setsH_size.symm, fun i _ hn => setsH_ne fun e => hn (by rw [e]; exact hB)⟩

/-! ## Rows that are made -/

section
variable {P : Program} {t e : TypeId} {bytes : Nat} {h : Hp}

end

theorem Own.store {h : Hp} {base : Nat} {e : TypeId} {p : Option Addr} {n c : Nat} {xs : List Value} (o : Own h base e 1 (.slice p n c) n xs) {i : Nat} (hi : i < n) {v : Value} (h1 : v.oneCell' = true) {K : Hp → Prop}
    (hK : ∀ h', Own h' base e 1 (.slice p n c) n (xs.set i v) → Grown h h' (Value.slice p n c).ownBlock → h'.size = h.size → K h') :
    ∃ b q, p = some ⟨b, q, none⟩ ∧ 0 ≤ (i : Int) ∧ (i : Int) < n ∧ v.oneCell' = true ∧ wrAt h b (q + Int.toNat (i : Int) * 1) 1 ∧ ∀ h', h' = setsH h b (q + Int.toNat (i : Int) * 1) [v] → K h' := by
  rcases o.2 with ⟨hn, h0⟩ | ⟨g, cap, cur, hv, hb, hg, hnc, hcm, hcs, ht⟩
  · omega
  · cases hv
    refine ⟨g, 0, rfl, by omega, by omega, h1, ?_, ?_⟩
    · exact wrAt_of (show h[g]? = _ from hg) (by rw [Int.toNat_natCast]; omega) (by omega)
    · rintro h' rfl
      rw [Int.toNat_natCast, Nat.zero_add, Nat.mul_one]
      refine hK _ ⟨by rw [List.length_set]; exact o.1, .inr ⟨g, c, layC cur i [v], rfl, hb, ?_, hnc, hcm, by rw [layC_size]; exact hcs, ?_⟩⟩ ⟨by rw [setsH_size]; exact Nat.le_refl _, fun k _ hne => setsH_ne (fun e => hne (by rw [e]; rfl))⟩ setsH_size
      · exact setsH_at (show h[g]? = _ from hg)
      · rw [← ht]
        simp only [layC, Array.toList_setIfInBounds, List.take_set]

theorem semH_pushC {P : Program} {t e : TypeId} {bytes : Nat} {h : Hp} (T : RowT P t e 1 bytes) {ty : TypeId} {base : Nat} {p : Option Addr} {n c : Nat} {xs : List Value} (hown : Own h base e 1 (.slice p n c) n xs) {vs : List Value} {parts : Array (Nat × Value)} {m : Nat}
    (hp : parts = ((List.range' 0 vs.length).zip vs).toArray) (hm : m = vs.length) (h0 : vs ≠ []) (hlen : vs.length ≤ 16777216) (h1 : ∀ v ∈ vs, v.oneCell' = true)
    (hbytes : ((n + m) + (n + m) / 4 + 192) * bytes ≤ 281474976710656) (hmax : n + m ≤ maxLen) (hbase : base ≤ h.size) {C : Hp → Prop} (hC1 : ∀ h', Ext h h' → C h') (hC2 : ∀ h', Grown h h' (Value.slice p n c).ownBlock → C h') {K : Option Addr → Nat → Nat → Hp → Prop}
    (hK : ∀ p' c' h', Own h' base e 1 (.slice p' (n + m) c') (n + m) (xs ++ vs) → Grown h h' (Value.slice p n c).ownBlock → n + m ≤ c' → ((Value.slice p' (n + m) c').ownBlock = (Value.slice p n c).ownBlock ∨ ∃ b, (Value.slice p' (n + m) c').ownBlock = some b ∧ h.size ≤ b) → K p' (n + m) c' h') :
    SemH P (Instr.buildSlice t m parts) h fun v_ h1 => ∃ (p1 : Option Addr) (n1 c1 : Nat), v_ = (Value.slice p1 n1 c1) ∧ C h1 ∧
      SemH P (Builtin.append_ #[t, t] ty #[.slice p n c, .slice p1 n1 c1]) h1 fun v_1 h2 => ∃ (p2 : Option Addr) (n2 c2 : Nat), v_1 = (Value.slice p2 n2 c2) ∧ C h2 ∧ K p2 n2 c2 h2 := by
  refine semH_build T hp hm h0 hlen h1 ⟨_, _, _, rfl, hC1 _ (Ext.push _ _), ?_⟩
  have hg : Grown h (h.push (.cells vs.toArray e)) (Value.slice p n c).ownBlock := ⟨by simp, fun k hk _ => (Ext.push h _).old k hk⟩
  have hown' : Own (h.push (.cells vs.toArray e)) base e 1 (.slice p n c) n xs := hown.ext (Ext.push h _)
  subst hm
  have hseg : Seg (h.push (.cells vs.toArray e)) (some ⟨h.size, 0, none⟩) vs.length vs := ⟨rfl, .inr ⟨_, _, rfl, cellsAt_all push_last⟩⟩
  refine SemH.mono (semH_appendSeg (ty := ty) (d := vs.length) T hown' hseg h1 hbytes hmax (by simp; omega) (K := fun p2 n2 c2 h2 => C h2 ∧ K p2 n2 c2 h2) fun p' c' h' ho hg' hnc hbl => ?_) fun _ _ h => h
  have hgg : Grown h h' (Value.slice p n c).ownBlock := ⟨Nat.le_trans hg.size hg'.size, fun k hk hne => (hg'.block k (Nat.lt_of_lt_of_le hk hg.size) hne).trans (hg.block k hk hne)⟩
  exact ⟨hC2 _ hgg, hK _ _ _ ho hgg hnc (hbl.imp id fun ⟨b, hb, hl⟩ => ⟨b, hb, Nat.le_trans hg.size hl⟩)⟩

theorem layC_append : ∀ {a b : List Value} {cs : Array Value} {o : Nat}, layC cs o (a ++ b) = layC (layC cs o a) (o + a.length) b := by
  intro a
  induction a with
  | nil => intro b cs o; rfl
  | cons v r ih =>
    intro b cs o
    simp only [List.cons_append, layC, List.length_cons]
    rw [ih, show o + 1 + r.length = o + (r.length + 1) by omega]

theorem foldl_layC (off : Nat) : ∀ (l : List Value) (i : Nat) (cs : Array Value), (l.zipIdx i).foldl (fun cs (x : Value × Nat) => cs.setIfInBounds (off + x.2) x.1) cs = layC cs (off + i) l := by
  intro l
  induction l with
  | nil => intro i cs; rfl
  | cons v r ih => intro i cs; simp only [List.zipIdx_cons, List.foldl_cons, layC]; rw [ih]; rfl

theorem fill_rows {z : Nat} : ∀ (rows : List (List Value)) (k : Nat) (cs : Array Value), (∀ r ∈ rows, r.length = z) → (k + rows.length) * z ≤ cs.size →
    Instr.fill (fun i => some (i * z, z)) cs ((List.range' k rows.length).zip (rows.map fun r => Value.agg r.toArray)) = some (layC cs (k * z) rows.flatten) := by
  intro rows
  induction rows with
  | nil => intro k cs _ _; rfl
  | cons r rows ih =>
    intro k cs hr hk
    have hrz := hr r (by simp)
    have hk1 : k * z + z ≤ cs.size := by
      have : (k + 1) * z ≤ (k + (r :: rows).length) * z := Nat.mul_le_mul_right _ (by simp)
      rw [Nat.succ_mul] at this; omega
    simp only [List.length_cons, List.range'_succ, List.map_cons, List.zip_cons_cons, Instr.fill, Value.cells, List.size_toArray, hrz]
    rw [if_neg (by simp; omega)]
    have hf : (r.toArray.zipIdx.foldl (fun cs (x : Value × Nat) => cs.setIfInBounds (k * z + x.2) x.1) cs) = layC cs (k * z) r := by
      have := foldl_layC (k * z) r 0 cs
      simpa using this
    rw [hf, ih (k + 1) _ (fun r hr' => hr r (by simp [hr'])) (by rw [layC_size]; simpa [Nat.add_assoc, Nat.add_comm 1] using hk), List.flatten_cons, layC_append, hrz, Nat.succ_mul]

theorem semH_buildS {P : Program} {t e : TypeId} {h : Hp} (T : P.underlying t = some (.slice e)) {z : Nat} (hz : z ≠ 0) (hi : ∃ i y, P.info? e = some i ∧ i.zero = some y ∧ i.size = z ∧ y.cells.size = z)
    {rows : List (List Value)} (hr : ∀ r ∈ rows, r.length = z) {parts : Array (Nat × Value)} {n : Nat} (hp : parts = ((List.range' 0 rows.length).zip (rows.map fun r => Value.agg r.toArray)).toArray) (hn : n = rows.length) (h0 : rows ≠ []) (hlen : rows.length * z ≤ 16777216)
    {R : Value → Hp → Prop} (hR : R (.slice (some ⟨h.size, 0, none⟩) n n) (h.push (.cells rows.flatten.toArray e))) :
    SemH P (Instr.buildSlice t n parts) h R := by
  obtain ⟨i, y, hi, hy, hs, hys⟩ := hi
  subst hp
  subst hn
  have hl0 : rows.length ≠ 0 := fun e => h0 (List.length_eq_zero_iff.1 e)
  have hnz : rows.length * z ≠ 0 := Nat.mul_ne_zero hl0 hz
  refine SemH.ok (h' := h.push (.cells rows.flatten.toArray e)) (fun w hw => ⟨{ w with heap := w.heap.push (.cells rows.flatten.toArray e) }, ?_, ⟨rfl, rfl, rfl⟩, by rw [hw]⟩) (v := .slice (some ⟨h.size, 0, none⟩) rows.length rows.length) hR
  subst hw
  have hfl : rows.flatten.length = rows.length * z := by
    clear hl0 hnz hR hlen h0
    induction rows with
    | nil => simp
    | cons r rows ih => rw [List.flatten_cons, List.length_append, hr r (by simp), ih (fun r hr' => hr r (by simp [hr'])), List.length_cons, Nat.succ_mul]; omega
  have hf : ∀ cs : Array Value, cs.size = rows.length * z → Instr.fill (fun i => some (i * z, z)) cs ((List.range' 0 rows.length).zip (rows.map fun r => Value.agg r.toArray)) = some rows.flatten.toArray := by
    intro cs hcs
    rw [fill_rows rows 0 cs hr (by rw [Nat.zero_add, hcs]; exact Nat.le_refl _), Nat.zero_mul, layC_all (by rw [hfl, hcs])]
  simp only [Instr.buildSlice, Sem.run_bind, run_underlying T, sizeOf, typeInfo, run_program, hi, hs, Result.andThen_ok, Sem.run_pure]
  rw [if_neg (Nat.not_lt.2 hlen), if_neg hnz]
  simp [zeroValue, typeInfo, hi, hy, newRow]
  rw [hf _ (by simp)]
  simp

/-! ## Rows of structs -/

def SegS (h : Hp) (p : Option Addr) (n z : Nat) (rows : List (List Value)) : Prop :=
  rows.length = n ∧ (∀ r ∈ rows, r.length = z) ∧ (rows = [] ∨ ∃ b o, p = some ⟨b, o, none⟩ ∧ cellsAt h b o rows.flatten)

theorem flatten_at {α : Type} {z : Nat} : ∀ {rows : List (List α)} (_ : ∀ r ∈ rows, r.length = z) {i j : Nat} (hi : i < rows.length) (_ : j < z), rows.flatten[i * z + j]? = rows[i][j]? := by
  intro rows
  induction rows with
  | nil => intro _ i j hi; cases hi
  | cons r rows ih =>
    intro hz i j hi hj
    have hr : r.length = z := hz r (by simp)
    rw [List.flatten_cons]
    cases i with
    | zero => rw [Nat.zero_mul, Nat.zero_add, List.getElem?_append_left (by omega)]; rfl
    | succ i =>
      rw [List.getElem?_append_right (by rw [hr, Nat.succ_mul]; omega), hr, show (i + 1) * z + j - z = i * z + j by rw [Nat.succ_mul]; omega]
      exact ih (fun r hr => hz r (by simp [hr])) (by simpa using hi) hj

theorem SegS.at {h : Hp} {p : Option Addr} {n z : Nat} {rows : List (List Value)} (s : SegS h p n z rows) {i : Nat} (hi : i < rows.length) :
    ∃ b o, p = some ⟨b, o, none⟩ ∧ 0 ≤ (i : Int) ∧ (i : Int) < n ∧ cellsAt h b (o + Int.toNat (i : Int) * z) rows[i] := by
  obtain ⟨h1, h2, h3⟩ := s
  rcases h3 with rfl | ⟨b, o, hp, hc⟩
  · cases hi
  · refine ⟨b, o, hp, by omega, by omega, cellsAt_iff.2 fun j hj => ?_⟩
    have hz : rows[i].length = z := h2 _ (List.getElem_mem hi)
    have hf := flatten_at h2 hi (j := j) (by omega)
    rw [List.getElem?_eq_getElem hj] at hf
    obtain ⟨hl, he⟩ := List.getElem?_eq_some_iff.1 hf
    have := cellsAt_iff.1 hc _ hl
    rw [he] at this
    rw [Int.toNat_natCast, show o + i * z + j = o + (i * z + j) by omega]
    exact this

theorem SegS.keep {h h' : Hp} {p : Option Addr} {n z : Nat} {rows : List (List Value)} (s : SegS h p n z rows) (k : ∀ b o, p = some ⟨b, o, none⟩ → rows ≠ [] → h'[b]? = h[b]?) : SegS h' p n z rows := by
  refine ⟨s.1, s.2.1, ?_⟩
  by_cases h0 : rows = []
  · exact .inl h0
  · rcases s.2.2 with hs | ⟨b, o, hp, hc⟩
    · exact .inl hs
    · exact .inr ⟨b, o, hp, cellsAt_congr (k b o hp h0) hc⟩

theorem SegS.ext {h h' : Hp} {p : Option Addr} {n z : Nat} {rows : List (List Value)} (s : SegS h p n z rows) (x : Ext h h') : SegS h' p n z rows :=
  ⟨s.1, s.2.1, s.2.2.imp id fun ⟨b, o, hp, hc⟩ => ⟨b, o, hp, x.cells hc⟩⟩


theorem SegS.get {h : Hp} {p : Option Addr} {n z : Nat} {rows : List (List Value)} (s : SegS h p n z rows) {i : Nat} (hi : i < rows.length) :
    ∃ b o, p = some ⟨b, o, none⟩ ∧ 0 ≤ (i : Int) ∧ (i : Int) < n ∧ ∀ j v, rows[i][j]? = some v → cellsAt h b ((o + Int.toNat (i : Int) * z) + j) [v] := by
  obtain ⟨b, o, hp, h0, hn, hc⟩ := s.at hi
  refine ⟨b, o, hp, h0, hn, fun j v hj => cellsAt_one ?_⟩
  obtain ⟨hl, he⟩ := List.getElem?_eq_some_iff.1 hj
  have := cellsAt_iff.1 hc j hl
  rw [he] at this
  exact this

theorem SegS.nil (h : Hp) (z : Nat) : SegS h none 0 z [] := ⟨rfl, by simp, .inl rfl⟩

theorem SegS.block {h : Hp} {p : Option Addr} {n z : Nat} {rows : List (List Value)} (s : SegS h p n z rows) (hz : 0 < z) {b o : Nat} (hp : p = some ⟨b, o, none⟩) (h0 : rows ≠ []) : b < h.size := by
  rcases s.2.2 with h1 | ⟨b', o', hp', hc'⟩
  · exact (h0 h1).elim
  · rw [hp] at hp'; cases hp'
    cases hr : rows with
    | nil => exact (h0 hr).elim
    | cons r rs =>
      have hl := s.2.1 r (by rw [hr]; simp)
      rw [hr] at hc'
      have := cellsAt_iff.1 hc' 0 (by simp; omega)
      exact cellH_lt this

theorem Own.segS {h : Hp} {base : Nat} {e : TypeId} {z : Nat} {p : Option Addr} {n c : Nat} {rows : List (List Value)} (o : Own h base e z (.slice p n c) n rows.flatten) (hr : ∀ r ∈ rows, r.length = z) (hn : rows.length = n) : SegS h p n z rows := by
  refine ⟨hn, hr, ?_⟩
  rcases o.2 with ⟨hv, h0⟩ | ⟨g, cap, cur, hv, hb, hg, hnc, hcm, hcs, ht⟩
  · left; exact List.eq_nil_of_length_eq_zero (by omega)
  · cases hv
    right
    refine ⟨g, 0, rfl, cellsAt_of (show h[g]? = _ from hg) fun j hj => ?_⟩
    have hj' : j < n * z := by rw [← o.1]; exact hj
    have : (cur.toList.take (n * z))[j]? = cur[0 + j]? := by rw [List.getElem?_take_of_lt hj', Array.getElem?_toList, Nat.zero_add]
    rw [← this, ht]
    exact List.getElem?_eq_getElem hj

theorem semH_pushS {P : Program} {t e : TypeId} {z bytes : Nat} {h : Hp} (T : RowT P t e z bytes) (hz : 0 < z) {ty : TypeId} {base : Nat} {p : Option Addr} {n c : Nat} {xs : List Value} (hown : Own h base e z (.slice p n c) n xs) {r : List Value} {parts : Array (Nat × Value)}
    (hp : parts = #[(0, Value.agg r.toArray)]) (hr : r.length = z) (hlen : z ≤ 16777216) (h1 : ∀ v ∈ r, v.oneCell' = true)
    (hbytes : ((n + 1) + (n + 1) / 4 + 192) * bytes ≤ 281474976710656) (hmax : n + 1 ≤ maxLen) (hbase : base ≤ h.size) {K : Option Addr → Nat → Nat → Hp → Prop}
    (hK : ∀ p' c' h', Own h' base e z (.slice p' (n + 1) c') (n + 1) (xs ++ r) → Grown h h' (Value.slice p n c).ownBlock → n + 1 ≤ c' → ((Value.slice p' (n + 1) c').ownBlock = (Value.slice p n c).ownBlock ∨ ∃ b, (Value.slice p' (n + 1) c').ownBlock = some b ∧ h.size ≤ b) → K p' (n + 1) c' h') :
    SemH P (Instr.buildSlice t 1 parts) h fun v_ h1 => ∃ (p1 : Option Addr) (n1 c1 : Nat), v_ = (Value.slice p1 n1 c1) ∧
      SemH P (Builtin.append_ #[t, t] ty #[.slice p n c, .slice p1 n1 c1]) h1 fun v_1 h2 => ∃ (p2 : Option Addr) (n2 c2 : Nat), v_1 = (Value.slice p2 n2 c2) ∧ K p2 n2 c2 h2 := by
  obtain ⟨i, y, hi, hy, hs, hb, hys⟩ := T.hi
  refine semH_buildS T.ht (by omega) ⟨i, y, hi, hy, hs, hys⟩ (rows := [r]) (by simpa using hr) (by rw [hp]; rfl) rfl (by simp) (by simpa using hlen) ⟨_, _, _, rfl, ?_⟩
  have hfl : [r].flatten = r := by simp
  rw [hfl]
  have hg : Grown h (h.push (.cells r.toArray e)) (Value.slice p n c).ownBlock := ⟨by simp, fun k hk _ => (Ext.push h _).old k hk⟩
  have hown' : Own (h.push (.cells r.toArray e)) base e z (.slice p n c) n xs := hown.ext (Ext.push h _)
  refine semH_append T hz hown' (m := 1) (news := r) (by omega) ?_ h1 hbytes hmax (by simp; omega) fun v' h' ho hg' hn hbl => ?_
  · intro j u hj
    have := cellsAt_iff.1 (cellsAt_all (h := h.push (.cells r.toArray e)) (b := h.size) (vs := r) (t := e) (fz := (0, 0)) push_last) j (List.getElem?_eq_some_iff.1 hj).1
    rw [addr_add]
    rw [(List.getElem?_eq_some_iff.1 hj).2] at this
    exact this
  · have hv : v' ≠ .slice none 0 0 := fun hv => by have := (hn.1 hv).2; omega
    rcases ho.2 with ⟨hh, _⟩ | ⟨g, cap, cur, rfl, hb, hgg, hnc, _⟩
    · exact (hv hh).elim
    · exact ⟨_, _, _, rfl, hK _ _ _ ho ⟨Nat.le_trans hg.size hg'.size, fun k hk hne => (hg'.block k (Nat.lt_of_lt_of_le hk hg.size) hne).trans (hg.block k hk hne)⟩ hnc (hbl.imp id fun hb => ⟨_, hb, hg.size⟩)⟩

end Go.Vc
