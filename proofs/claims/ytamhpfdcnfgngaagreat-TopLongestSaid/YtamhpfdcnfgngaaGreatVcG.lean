import Derived.Test.YtamhpfdcnfgngaaGreatVcE
import Derived.Deep.DeepAppendWide
import Derived.Deep.DeepAppendRoom
import Derived.Lib.ConvBytes
import Derived.Lib.SlBytesRow
set_option maxRecDepth 10000
/- Facts about the conditions: numbers. -/
namespace Go.Vc
open Go

/-! ## Unsigned numbers as words -/

theorem wrapU64 (n : Int) : IntKind.u64.wrap n = n % 18446744073709551616 := by simp [IntKind.wrap, IntKind.bits, IntKind.signed]
theorem wrapI64 {n : Int} (h0 : -9223372036854775808 ≤ n) (h1 : n ≤ 9223372036854775807) : IntKind.i64.wrap n = n := by
  rw [IntKind.wrap_i64]; omega

theorem wrapWord64 (x : BitVec 64) : IntKind.u64.wrap (x.toNat : Int) = x.toNat := by
  have := x.isLt; rw [wrapU64]; omega
theorem ofIntWord {n : Nat} (x : BitVec n) : BitVec.ofInt n (x.toNat : Int) = x := by
  rw [BitVec.ofInt_natCast, BitVec.ofNat_toNat, BitVec.setWidth_eq]

theorem and64 (a b : BitVec 64) : andI .u64 (a.toNat : Int) (b.toNat : Int) = ((a &&& b).toNat : Int) := by
  unfold andI
  rw [show IntKind.u64.bits = 64 from rfl, ofIntWord, ofIntWord]
  exact wrapWord64 _
theorem shr_nat (k : IntKind) (a : Nat) (n : Nat) (h : n ≤ k.bits) : shrI k (a : Int) (n : Int) = ((a >>> n : Nat) : Int) := by
  unfold shrI
  have h2 : (0 : Int) ≤ 2 ^ n := Int.le_of_lt (Int.pow_pos (by decide))
  rw [show min (n : Int).toNat k.bits = n by simp; omega, Int.fdiv_eq_ediv_of_nonneg _ h2, Nat.shiftRight_eq_div_pow]
  simp

theorem shr64 (a : BitVec 64) (n : Nat) (h : n ≤ 64) : shrI .u64 (a.toNat : Int) (n : Int) = ((a >>> n).toNat : Int) := by
  rw [shr_nat _ _ _ h, BitVec.toNat_ushiftRight]
def numAt : List Value → Nat → Int
  | [], _ => 0
  | .int _ n :: _, 0 => n
  | _ :: _, 0 => 0
  | _ :: r, i + 1 => numAt r i

end Go.Vc

/- Facts about the conditions: the heap, rows of a function's own. -/
namespace Go.Vc
open Go

structure Ext (h h' : Hp) : Prop where
  size : h.size ≤ h'.size
  old : ∀ b, b < h.size → h'[b]? = h[b]?

theorem Ext.refl (h : Hp) : Ext h h := ⟨Nat.le_refl _, fun _ _ => rfl⟩
theorem Ext.trans {a b c : Hp} (h : Ext a b) (k : Ext b c) : Ext a c := ⟨Nat.le_trans h.size k.size, fun i hi => (k.old i (Nat.lt_of_lt_of_le hi h.size)).trans (h.old i hi)⟩
theorem Ext.push (h : Hp) (o : Obj) : Ext h (h.push o) := ⟨by simp, fun b hb => by rw [Array.getElem?_push]; simp [Nat.ne_of_lt hb]⟩

theorem cellH_congr {h h' : Hp} {a : Addr} (e : h'[a.block]? = h[a.block]?) : cellH h' a = cellH h a := by
  simp only [cellH, wld, World.cell?, e]
theorem cellH_lt {h : Hp} {a : Addr} {v : Value} (e : cellH h a = some v) : a.block < h.size := World.block_lt_of_cell? (wld h) a e

theorem Ext.cell {h h' : Hp} (x : Ext h h') {a : Addr} {v : Value} (e : cellH h a = some v) : cellH h' a = some v :=
  (cellH_congr (x.old _ (cellH_lt e))).trans e

theorem cellsAt_iff {h : Hp} {b : Nat} : ∀ {vs : List Value} {o : Nat}, cellsAt h b o vs ↔ ∀ j (hj : j < vs.length), cellH h ⟨b, o + j, none⟩ = some vs[j] := by
  intro vs
  induction vs with
  | nil => intro o; simp [cellsAt]
  | cons v r ih =>
    intro o
    simp only [cellsAt, ih]
    constructor
    · rintro ⟨h1, h2⟩ j hj
      cases j with
      | zero => exact h1
      | succ j => have := h2 j (by simpa using hj); rw [show o + 1 + j = o + (j + 1) by omega] at this; exact this
    · intro hh
      exact ⟨hh 0 (by simp), fun j hj => by have := hh (j + 1) (by simpa using hj); rw [show o + 1 + j = o + (j + 1) by omega]; exact this⟩

theorem cellsAt_one {h : Hp} {b o : Nat} {v : Value} (e : cellH h ⟨b, o, none⟩ = some v) : cellsAt h b o [v] := ⟨e, trivial⟩

theorem cellsAt_congr {h h' : Hp} {b o : Nat} {vs : List Value} (e : h'[b]? = h[b]?) (hc : cellsAt h b o vs) : cellsAt h' b o vs :=
  cellsAt_iff.2 fun j hj => (cellH_congr (h := h) (h' := h') e).trans (cellsAt_iff.1 hc j hj)

theorem Ext.cells {h h' : Hp} (x : Ext h h') {b o : Nat} {vs : List Value} (e : cellsAt h b o vs) : cellsAt h' b o vs := by
  rw [cellsAt_iff] at *
  exact fun j hj => x.cell (e j hj)

theorem cellH_at {h : Hp} {b o : Nat} {cs : Array Value} {t : TypeId} {fz : Nat × Nat} (e : h[b]? = some (.cells cs t fz)) : cellH h ⟨b, o, none⟩ = cs[o]? := by
  simp only [cellH, wld, World.cell?, e]; rfl

theorem frozenH_at {h : Hp} {b o : Nat} {cs : Array Value} {t : TypeId} {lo hi : Nat} (e : h[b]? = some (.cells cs t (lo, hi))) : frozenH h ⟨b, o, none⟩ = decide (lo ≤ o ∧ o < hi) := by
  simp only [frozenH, wld, World.frozen?, e, Bool.decide_and]

theorem setH_at {h : Hp} {b o : Nat} {cs : Array Value} {t : TypeId} {fz : Nat × Nat} {v : Value} (e : h[b]? = some (.cells cs t fz)) :
    (setH h ⟨b, o, none⟩ v)[b]? = some (.cells (cs.setIfInBounds o v) t fz) := by
  simp only [setH, wld, World.setCell, Array.getElem?_modify, if_true, e, Option.map_some]; rfl

theorem setH_ne {h : Hp} {b o : Nat} {v : Value} {c : Nat} (hne : c ≠ b) : (setH h ⟨b, o, none⟩ v)[c]? = h[c]? := by
  simp only [setH, wld, World.setCell, Array.getElem?_modify, if_neg (Ne.symm hne)]

theorem setH_size {h : Hp} {a : Addr} {v : Value} : (setH h a v).size = h.size := by
  simp only [setH, wld, World.setCell, Array.size_modify]

def layC (cs : Array Value) (o : Nat) : List Value → Array Value
  | [] => cs
  | v :: r => layC (cs.setIfInBounds o v) (o + 1) r

theorem setsH_at {b : Nat} {t : TypeId} {fz : Nat × Nat} : ∀ {vs : List Value} {h : Hp} {o : Nat} {cs : Array Value}, h[b]? = some (.cells cs t fz) →
    (setsH h b o vs)[b]? = some (.cells (layC cs o vs) t fz) := by
  intro vs
  induction vs with
  | nil => exact fun e => e
  | cons v r ih => exact fun e => ih (setH_at e)
theorem setsH_ne {b : Nat} {c : Nat} (hne : c ≠ b) : ∀ {vs : List Value} {h : Hp} {o : Nat}, (setsH h b o vs)[c]? = h[c]? := by
  intro vs
  induction vs with
  | nil => exact rfl
  | cons v r ih => exact ih.trans (setH_ne hne)
theorem setsH_size {b : Nat} : ∀ {vs : List Value} {h : Hp} {o : Nat}, (setsH h b o vs).size = h.size := by
  intro vs
  induction vs with
  | nil => exact rfl
  | cons v r ih => exact ih.trans setH_size

theorem layC_size : ∀ {vs : List Value} {cs : Array Value} {o : Nat}, (layC cs o vs).size = cs.size := by
  intro vs
  induction vs with
  | nil => exact rfl
  | cons v r ih => exact (ih).trans (by simp)

theorem layC_get : ∀ {vs : List Value} {cs : Array Value} {o i : Nat}, i < cs.size → (layC cs o vs)[i]? = if o ≤ i ∧ i < o + vs.length then vs[i - o]? else cs[i]? := by
  intro vs
  induction vs with
  | nil => intro cs o i hi; rw [if_neg (by rw [List.length_nil]; omega)]; rfl
  | cons v r ih =>
    intro cs o i hi
    simp only [layC]
    rw [ih (by simpa using hi), Array.getElem?_setIfInBounds, List.length_cons]
    by_cases h1 : o = i
    · subst h1
      rw [if_neg (by omega), if_pos rfl, if_pos hi, if_pos (by omega), Nat.sub_self]; rfl
    · by_cases h2 : o + 1 ≤ i ∧ i < o + 1 + r.length
      · rw [if_pos h2, if_pos (by omega), show i - o = (i - (o + 1)) + 1 by omega]; rfl
      · rw [if_neg h2, if_neg h1, if_neg (by omega)]

theorem layC_all {cs : Array Value} {vs : List Value} (h : vs.length = cs.size) : layC cs 0 vs = vs.toArray := by
  apply Array.ext_getElem?
  intro i
  by_cases hi : i < cs.size
  · rw [layC_get hi, if_pos (by omega)]; simp
  · rw [Array.getElem?_eq_none (by rw [layC_size]; omega), Array.getElem?_eq_none (by simp; omega)]

theorem wrAt_of {h : Hp} {b : Nat} {cs : Array Value} {t : TypeId} {lo hi : Nat} (e : h[b]? = some (.cells cs t (lo, hi))) : ∀ {n o : Nat}, o + n ≤ cs.size → (hi ≤ o ∨ o + n ≤ lo ∨ hi ≤ lo) → wrAt h b o n := by
  intro n
  induction n with
  | zero => exact fun _ _ => trivial
  | succ n ih =>
    intro o hn hf
    refine ⟨⟨⟨cs[o]'(by omega), ?_⟩, ?_⟩, ih (by omega) (by omega)⟩
    · rw [cellH_at e, Array.getElem?_eq_getElem (by omega)]
    · rw [frozenH_at e, decide_eq_false_iff_not]; omega

theorem cellsAt_of {h : Hp} {b o : Nat} {cs : Array Value} {t : TypeId} {fz : Nat × Nat} (e : h[b]? = some (.cells cs t fz)) {vs : List Value} (hv : ∀ j (hj : j < vs.length), cs[o + j]? = some vs[j]) : cellsAt h b o vs :=
  cellsAt_iff.2 fun j hj => (cellH_at e).trans (hv j hj)

theorem cellsAt_all {h : Hp} {b : Nat} {vs : List Value} {t : TypeId} {fz : Nat × Nat} (e : h[b]? = some (.cells vs.toArray t fz)) : cellsAt h b 0 vs :=
  cellsAt_of e fun j hj => by rw [Nat.zero_add]; simp [hj]

theorem push_last {h : Hp} {o : Obj} : (h.push o)[h.size]? = some o := by simp

/-! ## Rows of a function's own -/

def Own (h : Hp) (base : Nat) (e : TypeId) (size : Nat) (v : Value) (n : Nat) (xs : List Value) : Prop := (wld h).ownsRow base e size v n xs

structure Grown (h h' : Hp) (row : Option Nat) : Prop where
  size : h.size ≤ h'.size
  block : ∀ k, k < h.size → some k ≠ row → h'[k]? = h[k]?

theorem Own.nil (h : Hp) (base : Nat) (e : TypeId) (size : Nat) : Own h base e size (.slice none 0 0) 0 [] := ⟨by simp, .inl ⟨rfl, rfl⟩⟩

section
variable {h h0 h' : Hp} {base : Nat} {e : TypeId} {size : Nat} {v : Value} {n : Nat} {xs : List Value}

theorem Own.lt (o : Own h base e size v n xs) {k : Nat} (hk : v.ownBlock = some k) : base ≤ k ∧ k < h.size := World.ownsRow.lt o k hk

theorem Ext.grown {row : Option Nat} (x : Ext h0 h) (g : Grown h h' row) (hr : ∀ k, row = some k → h0.size ≤ k) : Ext h0 h' :=
  ⟨Nat.le_trans x.size g.size, fun b hb => (g.block b (Nat.lt_of_lt_of_le hb x.size) (fun e => by have := hr b e.symm; omega)).trans (x.old b hb)⟩

theorem Ext.own (x : Ext h0 h) (o : Own h base e size v n xs) (hb : h0.size ≤ base) (g : Grown h h' v.ownBlock) : Ext h0 h' :=
  x.grown g fun _ hk => Nat.le_trans hb (o.lt hk).1

theorem Own.kept {row : Option Nat} (o : Own h base e size v n xs) (g : Grown h h' row) (hne : v.ownBlock = none ∨ v.ownBlock ≠ row) : Own h' base e size v n xs := by
  refine ⟨o.1, ?_⟩
  rcases o.2 with hn | ⟨b, cap, cur, rfl, hb, hgg, rest⟩
  · exact .inl hn
  · refine .inr ⟨b, cap, cur, rfl, hb, ?_, rest⟩
    show h'[b]? = _
    rw [g.block b (Array.getElem?_eq_some_iff.1 hgg).1 (by simpa [Value.ownBlock] using hne)]
    exact hgg

theorem Own.ext (o : Own h base e size v n xs) (x : Ext h h') : Own h' base e size v n xs :=
  o.kept (row := none) ⟨x.size, fun k hk _ => x.old k hk⟩ (by cases v.ownBlock <;> simp)

theorem Own.read (o : Own h base e 1 v n xs) {p : Option Addr} {k c : Nat} (hv : v = .slice p k c) : k = n ∧ xs.length = n ∧ n ≤ c ∧ (∀ b o', p = some ⟨b, o', none⟩ → o' = 0) ∧
    ∀ i (hi : i < xs.length), ∃ b, p = some ⟨b, 0, none⟩ ∧ cellH h ⟨b, i, none⟩ = some xs[i] := by
  have hl : xs.length = n := by have := o.1; omega
  rcases o.2 with ⟨rfl, rfl⟩ | ⟨b, cap, cur, rfl, hb, hg, hnc, _, hcs, ht⟩
  · cases hv
    refine ⟨rfl, hl, Nat.zero_le _, by simp, fun i hi => by omega⟩
  · cases hv
    refine ⟨rfl, hl, hnc, by simp, fun i hi => ⟨b, rfl, ?_⟩⟩
    rw [cellH_at (show h[b]? = _ from hg)]
    have : cur.toList[i]? = xs[i]? := by rw [← ht, List.getElem?_take_of_lt (by omega)]
    rw [← Array.getElem?_toList, this, List.getElem?_eq_getElem hi]

end

structure RowT (P : Program) (t e : TypeId) (size bytes : Nat) : Prop where
  ht : P.underlying t = some (.slice e)
  hi : ∃ i z, P.info? e = some i ∧ i.zero = some z ∧ i.size = size ∧ i.bytes = bytes ∧ z.cells.size = size

def rowT (P : Program) (t e size bytes : Nat) : Bool := match P.underlying t, P.info? e with
  | some (.slice e'), some i => match i.zero with
    | some z => Nat.beq e' e && (Nat.beq i.size size && (Nat.beq i.bytes bytes && Nat.beq z.cells.size size))
    | none => false
  | _, _ => false

theorem RowT.of {P : Program} {t e size bytes : Nat} (h : rowT P t e size bytes = true) : RowT P t e size bytes := by
  unfold rowT at h
  split at h
  · rename_i ht hi
    split at h
    · rename_i z hz
      simp only [Bool.and_eq_true, Nat.beq_eq] at h
      obtain ⟨rfl, h1, h2, h3⟩ := h
      exact ⟨ht, _, _, hi, hz, h1, h2, h3⟩
    · cases h
  · cases h

theorem SemH.ok {α : Type} {P : Program} {s : Sem α} {h h' : Hp} {R : α → Hp → Prop} {v : α} (hr : ∀ w : World, w.heap = h → ∃ w', s.run P w = .ok v w' ∧ Rest w w' ∧ w'.heap = h') (hR : R v h') : SemH P s h R := by
  intro w hw
  obtain ⟨w', h1, h2, h3⟩ := hr w hw
  exact ⟨v, w', h1, h2, by rw [h3]; exact hR⟩

section
variable {P : Program} {t e : TypeId} {size bytes : Nat} {h : Hp}

theorem semH_appendK (T : RowT P t e size bytes) (hsz : 0 < size) {ty : TypeId} {base : Nat} {v : Value} {n : Nat} {xs : List Value} (hown : Own h base e size v n xs)
    {a : Addr} {m c : Nat} {news : List Value} (hl : news.length = m * size) (hnews : ∀ j u, news[j]? = some u → cellH h (a.add j) = some u) (h1 : ∀ u ∈ news, u.oneCell' = true)
    (hbytes : ((n + m) + (n + m) / 4 + 192) * bytes ≤ 281474976710656) (hmax : n + m ≤ maxLen) (hbase : base ≤ h.size) {R : Value → Hp → Prop}
    (hR : ∀ v' h', Own h' base e size v' (n + m) (xs ++ news) → Grown h h' v.ownBlock → (v' = .slice none 0 0 ↔ v = .slice none 0 0 ∧ m = 0) → (v'.ownBlock = v.ownBlock ∨ v'.ownBlock = some h.size) → Own h' base e size v n xs → R v' h') :
    SemH P (Builtin.append_ #[t, t] ty #[v, .slice (some a) m c]) h R := by
  intro w hw
  obtain ⟨i, z, hi, hz, hs, hb, hzs⟩ := T.hi
  subst hw
  obtain ⟨v', w', hrun, ho, hg, hn⟩ := run_append_own_wide w base t ty e i z size bytes T.ht hi hz hs hb hzs hsz v n xs hown a m c news hl hnews h1 hmax hbytes hbase
  refine ⟨v', w', hrun, ⟨hg.os, hg.tape, hg.output⟩, hR v' w'.heap ho ⟨hg.size, hg.block⟩ hn ?_ ?_⟩
  · have hmax' : n + m ≤ 9223372036854775807 := hmax
    subst hs
    subst hb
    rcases hown.2 with ⟨rfl, rfl⟩ | ⟨g, cap, cur, rfl, hbg, hgg, hnc, hcm, hcs, htake⟩
    · by_cases hm : m = 0
      · left
        rw [hn.2 ⟨rfl, hm⟩]
      · have hr := run_append_nil (P := P) w t ty e i z T.ht hi hz a m c news hl hnews (by omega) (by omega) (Nat.le_trans (Nat.mul_le_mul_right _ (by omega)) hbytes)
        rw [hr] at hrun
        cases hrun
        exact .inr rfl
    · by_cases hroom : n + m ≤ cap
      · obtain ⟨w2, hr, _⟩ := run_append_own_spare (P := P) w base t ty e i i.size T.ht hi rfl g n cap xs hown a m c news hl hnews h1 hroom
        rw [hr] at hrun
        cases hrun
        exact .inl rfl
      · have hr := run_append_grow (P := P) w t ty e i z T.ht hi hz ⟨g, 0, none⟩ n cap xs hown.1 (hown.cells (g := g) rfl) a m c news hl hnews (by omega) (by omega) (growslice_fits_wide (by omega) hbytes)
        rw [hr] at hrun
        cases hrun
        exact .inr rfl
  · have hmax' : n + m ≤ 9223372036854775807 := hmax
    subst hs
    subst hb
    rcases hown.2 with ⟨rfl, rfl⟩ | ⟨g, cap, cur, rfl, hbg, hgg, hnc, hcm, hcs, htake⟩
    · exact ⟨hown.1, .inl ⟨rfl, rfl⟩⟩
    · by_cases hroom : n + m ≤ cap
      · obtain ⟨w2, hr, _⟩ := run_append_own_spare (P := P) w base t ty e i i.size T.ht hi rfl g n cap xs hown a m c news hl hnews h1 hroom
        rw [hr] at hrun
        cases hrun
        rcases ho.2 with ⟨h0, _⟩ | ⟨g', cap', cur', hv, hb', hg', hnc', hcm', hcs', ht'⟩
        · cases h0
        · cases hv
          refine ⟨hown.1, .inr ⟨g, _, cur', rfl, hbg, hg', hnc, hcm, hcs', ?_⟩⟩
          have h2 := congrArg (List.take (n * i.size)) ht'
          rw [List.take_take, Nat.min_eq_left (Nat.mul_le_mul_right _ (by omega)), List.take_append_of_le_length (Nat.le_of_eq hown.1.symm), List.take_of_length_le (Nat.le_of_eq hown.1)] at h2
          exact h2
      · have hr := run_append_grow (P := P) w t ty e i z T.ht hi hz ⟨g, 0, none⟩ n cap xs hown.1 (hown.cells (g := g) rfl) a m c news hl hnews (by omega) (by omega) (growslice_fits_wide (by omega) hbytes)
        rw [hr] at hrun
        cases hrun
        refine ⟨hown.1, .inr ⟨g, cap, cur, rfl, hbg, ?_, hnc, hcm, hcs, htake⟩⟩
        have hlt := (Array.getElem?_eq_some_iff.1 hgg).1
        exact ((Ext.push w.heap _).old g hlt).trans hgg

theorem semH_append (T : RowT P t e size bytes) (hsz : 0 < size) {ty : TypeId} {base : Nat} {v : Value} {n : Nat} {xs : List Value} (hown : Own h base e size v n xs)
    {a : Addr} {m c : Nat} {news : List Value} (hl : news.length = m * size) (hnews : ∀ j u, news[j]? = some u → cellH h (a.add j) = some u) (h1 : ∀ u ∈ news, u.oneCell' = true)
    (hbytes : ((n + m) + (n + m) / 4 + 192) * bytes ≤ 281474976710656) (hmax : n + m ≤ maxLen) (hbase : base ≤ h.size) {R : Value → Hp → Prop}
    (hR : ∀ v' h', Own h' base e size v' (n + m) (xs ++ news) → Grown h h' v.ownBlock → (v' = .slice none 0 0 ↔ v = .slice none 0 0 ∧ m = 0) → (v'.ownBlock = v.ownBlock ∨ v'.ownBlock = some h.size) → R v' h') :
    SemH P (Builtin.append_ #[t, t] ty #[v, .slice (some a) m c]) h R :=
  semH_appendK T hsz hown hl hnews h1 hbytes hmax hbase fun v' h' a b c d _ => hR v' h' a b c d

theorem semH_append_none (T : RowT P t e size bytes) {ty : TypeId} {p : Option Addr} {n c c' : Nat} {q : Option Addr} (hn : n ≤ c) {R : Value → Hp → Prop} (hR : R (.slice p n c) h) :
    SemH P (Builtin.append_ #[t, t] ty #[.slice p n c, .slice q 0 c']) h R := by
  obtain ⟨i, z, hi, hz, hs, hb, hzs⟩ := T.hi
  refine SemH.ok (h' := h) (fun w hw => ⟨w, ?_, Rest.refl w, hw⟩) hR
  cases p <;> cases q <;> simp [Builtin.append_, run_underlying T.ht, sizeOf, typeInfo, hi, Builtin.lenOf, Builtin.firstCells, loadCells, loadCellsFrom, storeCells, hn]

end

theorem fill_ones (z : Nat → Option (Nat × Nat)) (hz : ∀ i, z i = some (i * 1, 1)) : ∀ (vs : List Value) (k : Nat) (cs : Array Value), (∀ v ∈ vs, v.oneCell' = true) → k + vs.length ≤ cs.size →
    Instr.fill z cs (((List.range' k vs.length).zip vs)) = some (layC cs k vs) := by
  intro vs
  induction vs with
  | nil => intro k cs _ _; simp [Instr.fill, layC]
  | cons v r ih =>
    intro k cs h1 hk
    have hv : v.cells = #[v] := by have := h1 v (by simp); cases v <;> first | rfl | cases this
    simp only [List.length_cons] at hk
    simp only [List.length_cons, List.range'_succ, List.zip_cons_cons, Instr.fill, hz, hv]
    rw [if_neg (by simp; omega)]
    have := ih (k + 1) (cs.setIfInBounds k v) (fun u hu => h1 u (by simp [hu])) (by simp; omega)
    simpa [layC] using this

theorem fill_all (z : Nat → Option (Nat × Nat)) (hz : ∀ i, z i = some (i * 1, 1)) {vs : List Value} {cs : Array Value} (h1 : ∀ v ∈ vs, v.oneCell' = true) (hs : vs.length = cs.size) :
    Instr.fill z cs ((List.range' 0 vs.length).zip vs) = some vs.toArray := by
  rw [fill_ones z hz vs 0 cs h1 (by omega), layC_all hs]

section
variable {P : Program} {t e : TypeId} {bytes : Nat} {h : Hp}

theorem semH_build (T : RowT P t e 1 bytes) {vs : List Value} {parts : Array (Nat × Value)} {n : Nat} (hp : parts = ((List.range' 0 vs.length).zip vs).toArray) (hn : n = vs.length) (h0 : vs ≠ []) (hlen : vs.length ≤ 16777216) (h1 : ∀ v ∈ vs, v.oneCell' = true)
    {R : Value → Hp → Prop} (hR : R (.slice (some ⟨h.size, 0, none⟩) n n) (h.push (.cells vs.toArray e))) :
    SemH P (Instr.buildSlice t n parts) h R := by
  obtain ⟨i, z, hi, hz, hs, hb, hzs⟩ := T.hi
  subst hn
  subst hp
  have h0' : vs.length ≠ 0 := fun hh => h0 (List.length_eq_zero_iff.1 hh)
  refine SemH.ok (h' := h.push (.cells vs.toArray e)) (fun w hw => ⟨{ w with heap := w.heap.push (.cells vs.toArray e) }, ?_, ⟨rfl, rfl, rfl⟩, by rw [hw]⟩) (v := .slice (some ⟨h.size, 0, none⟩) vs.length vs.length) hR
  have hf : ∀ cs : Array Value, vs.length = cs.size → Instr.fill (fun i => some (i, 1)) cs ((List.range' 0 vs.length).zip vs) = some vs.toArray := fun cs hcs => fill_all _ (fun i => by rw [Nat.mul_one]) h1 hcs
  subst hw
  simp [Instr.buildSlice, run_underlying T.ht, sizeOf, typeInfo, zeroValue, hi, hz, hs, h0', Nat.not_lt.2 hlen, newRow]
  rw [hf _ (by simp)]
  simp

theorem semH_push (T : RowT P t e 1 bytes) {ty : TypeId} {base : Nat} {p : Option Addr} {n c : Nat} {xs : List Value} (hown : Own h base e 1 (.slice p n c) n xs) {vs : List Value} {parts : Array (Nat × Value)} {m : Nat}
    (hp : parts = ((List.range' 0 vs.length).zip vs).toArray) (hm : m = vs.length) (h0 : vs ≠ []) (hlen : vs.length ≤ 16777216) (h1 : ∀ v ∈ vs, v.oneCell' = true)
    (hbytes : ((n + m) + (n + m) / 4 + 192) * bytes ≤ 281474976710656) (hmax : n + m ≤ maxLen) (hbase : base ≤ h.size) {K : Option Addr → Nat → Nat → Hp → Prop}
    (hK : ∀ p' c' h', Own h' base e 1 (.slice p' (n + m) c') (n + m) (xs ++ vs) → Grown h h' (Value.slice p n c).ownBlock → n + m ≤ c' → ((Value.slice p' (n + m) c').ownBlock = (Value.slice p n c).ownBlock ∨ ∃ b, (Value.slice p' (n + m) c').ownBlock = some b ∧ h.size ≤ b) → K p' (n + m) c' h') :
    SemH P (Instr.buildSlice t m parts) h fun v_ h1 => ∃ (p1 : Option Addr) (n1 c1 : Nat), v_ = (Value.slice p1 n1 c1) ∧
      SemH P (Builtin.append_ #[t, t] ty #[.slice p n c, .slice p1 n1 c1]) h1 fun v_1 h2 => ∃ (p2 : Option Addr) (n2 c2 : Nat), v_1 = (Value.slice p2 n2 c2) ∧ K p2 n2 c2 h2 := by
  refine semH_build T hp hm h0 hlen h1 ⟨_, _, _, rfl, ?_⟩
  have hg : Grown h (h.push (.cells vs.toArray e)) (Value.slice p n c).ownBlock := ⟨by simp, fun k hk _ => (Ext.push h _).old k hk⟩
  have hown' : Own (h.push (.cells vs.toArray e)) base e 1 (.slice p n c) n xs := hown.ext (Ext.push h _)
  subst hm
  refine semH_append T (by decide) hown' (m := vs.length) (news := vs) (by simp) ?_ h1 hbytes hmax (by simp; omega) fun v' h' ho hg' hn hbl => ?_
  · intro j u hj
    have := cellsAt_iff.1 (cellsAt_all (h := h.push (.cells vs.toArray e)) (b := h.size) (vs := vs) (t := e) (fz := (0, 0)) push_last) j (List.getElem?_eq_some_iff.1 hj).1
    rw [addr_add]
    rw [(List.getElem?_eq_some_iff.1 hj).2] at this
    exact this
  · have hv : v' ≠ .slice none 0 0 := fun hv => by
      have := (hn.1 hv).2
      exact h0 (List.length_eq_zero_iff.1 this)
    rcases ho.2 with ⟨hh, _⟩ | ⟨g, cap, cur, rfl, hb, hgg, hnc, _⟩
    · exact (hv hh).elim
    · exact ⟨_, _, _, rfl, hK _ _ _ ho ⟨Nat.le_trans hg.size hg'.size, fun k hk hne => (hg'.block k (Nat.lt_of_lt_of_le hk hg.size) hne).trans (hg.block k hk hne)⟩ hnc (hbl.imp id fun hb => ⟨_, hb, hg.size⟩)⟩

end

def Seg (h : Hp) (p : Option Addr) (n : Nat) (xs : List Value) : Prop := xs.length = n ∧ (xs = [] ∨ ∃ b o, p = some ⟨b, o, none⟩ ∧ cellsAt h b o xs)

section
variable {P : Program} {t e : TypeId} {bytes : Nat} {h : Hp}

theorem semH_appendSeg (T : RowT P t e 1 bytes) {ty : TypeId} {base : Nat} {p : Option Addr} {n c : Nat} {xs : List Value} (hown : Own h base e 1 (.slice p n c) n xs) {q : Option Addr} {m d : Nat} {news : List Value} (hseg : Seg h q m news) (h1 : ∀ v ∈ news, v.oneCell' = true)
    (hbytes : ((n + m) + (n + m) / 4 + 192) * bytes ≤ 281474976710656) (hmax : n + m ≤ maxLen) (hbase : base ≤ h.size) {K : Option Addr → Nat → Nat → Hp → Prop}
    (hK : ∀ p' c' h', Own h' base e 1 (.slice p' (n + m) c') (n + m) (xs ++ news) → Grown h h' (Value.slice p n c).ownBlock → n + m ≤ c' → ((Value.slice p' (n + m) c').ownBlock = (Value.slice p n c).ownBlock ∨ ∃ b, (Value.slice p' (n + m) c').ownBlock = some b ∧ h.size ≤ b) → K p' (n + m) c' h') :
    SemH P (Builtin.append_ #[t, t] ty #[.slice p n c, .slice q m d]) h fun v_1 h2 => ∃ (p2 : Option Addr) (n2 c2 : Nat), v_1 = (Value.slice p2 n2 c2) ∧ K p2 n2 c2 h2 := by
  obtain ⟨_, _, hnc, _, _⟩ := hown.read rfl
  rcases hseg.2 with h0 | ⟨b, o, rfl, hc⟩
  · subst h0
    have hm : m = 0 := hseg.1.symm
    subst hm
    exact semH_append_none T hnc ⟨p, n, c, rfl, hK p c h (by simpa using hown) ⟨Nat.le_refl _, fun _ _ _ => rfl⟩ hnc (.inl rfl)⟩
  · refine semH_append T (by decide) hown (m := m) (news := news) (by rw [Nat.mul_one]; exact hseg.1) ?_ h1 hbytes hmax hbase fun v' h' ho hg hn hbl => ?_
    · intro j u hj
      rw [addr_add]
      have := cellsAt_iff.1 hc j (List.getElem?_eq_some_iff.1 hj).1
      rw [(List.getElem?_eq_some_iff.1 hj).2] at this
      exact this
    · rcases ho.2 with ⟨rfl, h0⟩ | ⟨g, cap, cur, rfl, hb, hgg, hncc, _⟩
      · have hn0 : n = 0 := by omega
        have hm0 : m = 0 := by omega
        subst hn0
        subst hm0
        exact ⟨none, 0, 0, rfl, hK none 0 h' ho hg (Nat.zero_le _) (hbl.imp id fun hb => ⟨_, hb, Nat.le_refl _⟩)⟩
      · exact ⟨_, _, _, rfl, hK _ _ _ ho hg hncc (hbl.imp id fun hb => ⟨_, hb, Nat.le_refl _⟩)⟩

end

end Go.Vc

