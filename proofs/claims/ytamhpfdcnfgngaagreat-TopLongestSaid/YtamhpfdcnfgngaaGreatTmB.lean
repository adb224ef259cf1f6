/- TopLongest: rows, loops that count, copies of slices, searches, names. -/
import Derived.Test.YtamhpfdcnfgngaaGreatTmA
set_option maxRecDepth 10000
namespace Go.Vc
open Go Go.Proofs Go.MapKept

/-! ## Loops that count -/

def cntI (n : Nat) (A : Nat → Hp → Prop) : List Value → Hp → Prop := fun vs hp => ∃ i : Nat, i ≤ n ∧ vs = [vI i] ∧ A i hp
def cntM (n : Nat) : List Value → Hp → Nat := fun vs _ => n - (numAt vs 0).toNat

theorem cnt_0 {n : Nat} {A : Nat → Hp → Prop} {hp : Hp} (a : A 0 hp) : cntI n A [Value.int .i64 (0 : Int)] hp := ⟨0, Nat.zero_le _, rfl, a⟩
theorem cnt_next {n i : Nat} {A : Nat → Hp → Prop} {hp hp' : Hp} (hi : i < n) (hn : n ≤ 4611686018427387904) (a : A (i + 1) hp') :
    ∃ x, IntKind.i64.wrap ((i : Int) + (1 : Int)) = x ∧ (cntI n A [Value.int .i64 x] hp' ∧ cntM n [Value.int .i64 x] hp' < cntM n [Value.int .i64 (i : Int)] hp) := by
  refine ⟨((i + 1 : Nat) : Int), incI (by omega), ⟨i + 1, hi, rfl, a⟩, ?_⟩
  simp only [cntM, numAt]; omega
theorem cnt_lt {n i : Nat} (h : decide ((i : Int) < ((n : Nat) : Int)) = true) : i < n := by have := of_decide_eq_true h; omega
theorem cnt_ge {n i : Nat} (hi : i ≤ n) (h : decide ((i : Int) < ((n : Nat) : Int)) = false) : i = n := by have := of_decide_eq_false h; omega

/-! ## Slices that are nil or not -/

section
variable {P : Program} {t e : TypeId}
theorem eqv_slice_nil (ht : P.underlying t = some (.slice e)) : EqV P t (.slice none 0 0) (.slice none 0 0) true :=
  eqv_of fun d w => by
    rw [Op.equalIn]
    simp only [Sem.run_bind, run_underlying ht, Result.andThen_ok, Sem.run_pure, Option.isNone_none]
theorem eqv_slice_some (ht : P.underlying t = some (.slice e)) (a : Addr) (n c : Nat) : EqV P t (.slice (some a) n c) (.slice none 0 0) false :=
  eqv_of fun d w => by
    rw [Op.equalIn]
    simp only [Sem.run_bind, run_underlying ht, Result.andThen_ok, Sem.run_pure]
end

theorem Own.cellsA {h : Hp} {base : Nat} {e : TypeId} {z b n c : Nat} {xs : List Value} (o : Own h base e z (.slice (some ⟨b, 0, none⟩) n c) n xs) : cellsAt h b 0 xs := by
  have hc : ∀ j u, xs[j]? = some u → (wld h).cell? ((⟨b, 0, none⟩ : Addr).add j) = some u := World.ownsRow.cells o (g := b) rfl
  refine cellsAt_iff.2 fun j hj => ?_
  have := hc j _ (List.getElem?_eq_getElem hj)
  rw [addr_add] at this
  exact this

section
variable {P : Program} {t e : TypeId} {z bytes : Nat} {h : Hp}

theorem semH_build0 (T : RowT P t e z bytes) {R : Value → Hp → Prop} (hR : R (.slice (some ⟨h.size, 0, none⟩) 0 0) (h.push (.cells #[] e))) : SemH P (Instr.buildSlice t 0 #[]) h R := by
  obtain ⟨i, y, hi, hy, hs, hb, hys⟩ := T.hi
  refine SemH.ok (h' := h.push (.cells #[] e)) (fun w hw => ⟨{ w with heap := w.heap.push (.cells #[] e) }, ?_, ⟨rfl, rfl, rfl⟩, by rw [hw]⟩) (v := .slice (some ⟨h.size, 0, none⟩) 0 0) hR
  subst hw
  simp [Instr.buildSlice, run_underlying T.ht, sizeOf, typeInfo, hi, newRow, Instr.fill]
  have : Array.map (fun _ => (default : Value)) (Array.range 0) = #[] := by apply Array.toList_inj.1; simp
  rw [this]

theorem semH_clone (T : RowT P t e z bytes) (hz : 0 < z) {b o n c : Nat} {vs : List Value} (hc : cellsAt h b o vs) (hl : vs.length = n * z) (h0 : 0 < n) (h1 : ∀ v ∈ vs, v.oneCell' = true)
    (hbytes : (n + n / 4 + 192) * bytes ≤ 281474976710656) (hmax : n ≤ 9223372036854775807) {ty : TypeId} {K : Option Addr → Nat → Nat → Hp → Prop}
    (hK : ∀ b' c' h', h.size ≤ b' → Ext h h' → Own h' h.size e z (.slice (some ⟨b', 0, none⟩) n c') n vs → K (some ⟨b', 0, none⟩) n c' h') :
    SemH P (Instr.buildSlice t 0 #[]) h fun v_ hp_ => ∃ (p1 : Option Addr) (n1 c1 : Nat), v_ = (Value.slice p1 n1 c1) ∧
      SemH P (Builtin.append_ #[t, t] ty #[.slice p1 n1 c1, .slice (some ⟨b, o, none⟩) n c]) hp_ fun v_1 h2 => ∃ (p2 : Option Addr) (n2 c2 : Nat), v_1 = (Value.slice p2 n2 c2) ∧ K p2 n2 c2 h2 := by
  refine semH_build0 T ⟨_, _, _, rfl, ?_⟩
  have x0 := Ext.push h (.cells #[] e)
  have hown : Own (h.push (.cells #[] e)) h.size e z (.slice (some ⟨h.size, 0, none⟩) 0 0) 0 [] :=
    ⟨by simp, .inr ⟨h.size, 0, #[], rfl, Nat.le_refl _, push_last, Nat.le_refl _, by simp [maxLen], by simp, by simp⟩⟩
  refine semH_append T hz hown (a := ⟨b, o, none⟩) (m := n) (news := vs) hl ?_ h1 (by simpa using hbytes) (by simpa [maxLen] using hmax) (by simp) fun v' h' ho hg hn hbl => ?_
  · intro j u hj
    rw [addr_add]
    have := cellsAt_iff.1 (x0.cells hc) j (List.getElem?_eq_some_iff.1 hj).1
    rw [(List.getElem?_eq_some_iff.1 hj).2] at this
    exact this
  · rw [Nat.zero_add, List.nil_append] at ho
    rcases ho.2 with ⟨hv, hh⟩ | ⟨g, cap, cur, rfl, hb, hgg, hnc, rest⟩
    · omega
    · refine ⟨_, _, _, rfl, hK g cap h' hb (x0.grown hg fun k hk => ?_) ho⟩
      cases hk; exact Nat.le_refl _
end

/-! ## Searches -/

theorem idx93_at {h : Hp} {p : Option Addr} {n c : Nat} {rows : List (List Value)} (s : SegS h p n 7 rows) (hn : n ≤ 4611686018427387904) (hs : ∀ r ∈ rows, ∃ (y0 : ByteArray) (y1_p : Option Addr) (y1_n y1_c : Nat) (y2_p : Option Addr) (y2_n y2_c : Nat) (y3 : Int) (y4 : ByteArray) (y5_p : Option Addr) (y5_n y5_c : Nat) (y6 : Bool), r = [.string y0, .slice y1_p y1_n y1_c, .slice y2_p y2_n y2_c, .int .i64 y3, .string y4, .slice y5_p y5_n y5_c, .bool y6]) {f : FuncId} {cap : Array Value} (hb : bodied Tryz.prog f = true) {pr : List Value → Bool}
    (hp : ∀ r ∈ rows, ∀ h', Ext h h' → CallsH Tryz.prog f ((.agg r.toArray) :: cap.toList).toArray h' (RetX (.bool (pr r)) h')) {k : Nat} (hk : k < rows.length) (h1 : pr rows[k] = true) (h0 : ∀ j (hj : j < k), pr (rows[j]'(by omega)) = false) :
    CallsH Tryz.prog 93 #[.slice p n c, .func (.func f) #[] cap] h (RetX (vI k) h) := by
  have hl : rows.length = n := s.1
  refine V93 _ _ _ _ h _ ⟨cntI n fun i hp => i ≤ k ∧ Ext h hp, cntM n, cnt_0 ⟨Nat.zero_le _, Ext.refl _⟩, ?_⟩
  rintro x hp1 ⟨i, hi, hx, hik, x1⟩
  cases hx
  refine ⟨fun hlt => ?_, fun hge => ?_⟩
  · have hlt := cnt_lt hlt
    obtain ⟨b, o, hpb, g0, gn, hc⟩ := (s.ext x1).at (i := i) (by omega)
    obtain ⟨y0, y1_p, y1_n, y1_c, y2_p, y2_n, y2_c, y3, y4, y5_p, y5_n, y5_c, y6, hr⟩ := hs rows[i] (List.getElem_mem _)
    have hcall := hp rows[i] (List.getElem_mem _) hp1 x1
    rw [hr] at hc hcall
    refine ⟨b, o, hpb, g0, gn, _, _, _, _, _, _, _, _, _, _, _, _, _, hc, f, #[], cap, rfl, hb, CallsH.mono hcall ?_⟩
    rintro en h2 ⟨rfl, x2⟩
    refine ⟨_, rfl, fun ht => ?_, fun hf => ?_⟩
    · have : i = k := by
        rcases Nat.lt_or_ge i k with h3 | h3
        · have := h0 i h3; rw [hr] at this; rw [this] at ht; cases ht
        · omega
      subst this
      exact ⟨rfl, x1.trans x2⟩
    · have : i ≠ k := by rintro rfl; rw [hr] at h1; rw [h1] at hf; cases hf
      exact cnt_next hlt hn ⟨by omega, x1.trans x2⟩
  · have := cnt_ge hi hge
    omega

theorem idx104_at {h : Hp} {p : Option Addr} {n c : Nat} {rows : List (List Value)} (s : SegS h p n 3 rows) (hn : n ≤ 4611686018427387904) (hs : ∀ r ∈ rows, ∃ (y0 : ByteArray) (y1_p : Option Addr) (y1_n y1_c : Nat) (y2_p : Option Addr) (y2_n y2_c : Nat), r = [.string y0, .slice y1_p y1_n y1_c, .slice y2_p y2_n y2_c]) {f : FuncId} {cap : Array Value} (hb : bodied Tryz.prog f = true) {pr : List Value → Bool}
    (hp : ∀ r ∈ rows, ∀ h', Ext h h' → CallsH Tryz.prog f ((.agg r.toArray) :: cap.toList).toArray h' (RetX (.bool (pr r)) h')) {k : Nat} (hk : k < rows.length) (h1 : pr rows[k] = true) (h0 : ∀ j (hj : j < k), pr (rows[j]'(by omega)) = false) :
    CallsH Tryz.prog 104 #[.slice p n c, .func (.func f) #[] cap] h (RetX (vI k) h) := by
  have hl : rows.length = n := s.1
  refine V104 _ _ _ _ h _ ⟨cntI n fun i hp => i ≤ k ∧ Ext h hp, cntM n, cnt_0 ⟨Nat.zero_le _, Ext.refl _⟩, ?_⟩
  rintro x hp1 ⟨i, hi, hx, hik, x1⟩
  cases hx
  refine ⟨fun hlt => ?_, fun hge => ?_⟩
  · have hlt := cnt_lt hlt
    obtain ⟨b, o, hpb, g0, gn, hc⟩ := (s.ext x1).at (i := i) (by omega)
    obtain ⟨y0, y1_p, y1_n, y1_c, y2_p, y2_n, y2_c, hr⟩ := hs rows[i] (List.getElem_mem _)
    have hcall := hp rows[i] (List.getElem_mem _) hp1 x1
    rw [hr] at hc hcall
    refine ⟨b, o, hpb, g0, gn, _, _, _, _, _, _, _, hc, f, #[], cap, rfl, hb, CallsH.mono hcall ?_⟩
    rintro en h2 ⟨rfl, x2⟩
    refine ⟨_, rfl, fun ht => ?_, fun hf => ?_⟩
    · have : i = k := by
        rcases Nat.lt_or_ge i k with h3 | h3
        · have := h0 i h3; rw [hr] at this; rw [this] at ht; cases ht
        · omega
      subst this
      exact ⟨rfl, x1.trans x2⟩
    · have : i ≠ k := by rintro rfl; rw [hr] at h1; rw [h1] at hf; cases hf
      exact cnt_next hlt hn ⟨by omega, x1.trans x2⟩
  · have := cnt_ge hi hge
    omega

theorem idx107_at {h : Hp} {p : Option Addr} {n c : Nat} {rows : List (List Value)} (s : SegS h p n 2 rows) (hn : n ≤ 4611686018427387904) (hs : ∀ r ∈ rows, ∃ (y0 : ByteArray) (y1 : Int), r = [.string y0, .int .i64 y1]) {f : FuncId} {cap : Array Value} (hb : bodied Tryz.prog f = true) {pr : List Value → Bool}
    (hp : ∀ r ∈ rows, ∀ h', Ext h h' → CallsH Tryz.prog f ((.agg r.toArray) :: cap.toList).toArray h' (RetX (.bool (pr r)) h')) {k : Nat} (hk : k < rows.length) (h1 : pr rows[k] = true) (h0 : ∀ j (hj : j < k), pr (rows[j]'(by omega)) = false) :
    CallsH Tryz.prog 107 #[.slice p n c, .func (.func f) #[] cap] h (RetX (vI k) h) := by
  have hl : rows.length = n := s.1
  refine V107 _ _ _ _ h _ ⟨cntI n fun i hp => i ≤ k ∧ Ext h hp, cntM n, cnt_0 ⟨Nat.zero_le _, Ext.refl _⟩, ?_⟩
  rintro x hp1 ⟨i, hi, hx, hik, x1⟩
  cases hx
  refine ⟨fun hlt => ?_, fun hge => ?_⟩
  · have hlt := cnt_lt hlt
    obtain ⟨b, o, hpb, g0, gn, hc⟩ := (s.ext x1).at (i := i) (by omega)
    obtain ⟨y0, y1, hr⟩ := hs rows[i] (List.getElem_mem _)
    have hcall := hp rows[i] (List.getElem_mem _) hp1 x1
    rw [hr] at hc hcall
    refine ⟨b, o, hpb, g0, gn, _, _, hc, f, #[], cap, rfl, hb, CallsH.mono hcall ?_⟩
    rintro en h2 ⟨rfl, x2⟩
    refine ⟨_, rfl, fun ht => ?_, fun hf => ?_⟩
    · have : i = k := by
        rcases Nat.lt_or_ge i k with h3 | h3
        · have := h0 i h3; rw [hr] at this; rw [this] at ht; cases ht
        · omega
      subst this
      exact ⟨rfl, x1.trans x2⟩
    · have : i ≠ k := by rintro rfl; rw [hr] at h1; rw [h1] at hf; cases hf
      exact cnt_next hlt hn ⟨by omega, x1.trans x2⟩
  · have := cnt_ge hi hge
    omega

theorem idx103_at {h : Hp} {p : Option Addr} {n c : Nat} {rows : List (List Value)} (s : SegS h p n 3 rows) (hn : n ≤ 4611686018427387904) (hs : ∀ r ∈ rows, ∃ (y0 : ByteArray) (y1 : ByteArray) (y2 : Int), r = [.string y0, .string y1, .int .i64 y2]) {f : FuncId} {cap : Array Value} (hb : bodied Tryz.prog f = true) {pr : List Value → Bool}
    (hp : ∀ r ∈ rows, ∀ h', Ext h h' → CallsH Tryz.prog f ((.agg r.toArray) :: cap.toList).toArray h' (RetX (.bool (pr r)) h')) {k : Nat} (hk : k < rows.length) (h1 : pr rows[k] = true) (h0 : ∀ j (hj : j < k), pr (rows[j]'(by omega)) = false) :
    CallsH Tryz.prog 103 #[.slice p n c, .func (.func f) #[] cap] h (RetX (vI k) h) := by
  have hl : rows.length = n := s.1
  refine V103 _ _ _ _ h _ ⟨cntI n fun i hp => i ≤ k ∧ Ext h hp, cntM n, cnt_0 ⟨Nat.zero_le _, Ext.refl _⟩, ?_⟩
  rintro x hp1 ⟨i, hi, hx, hik, x1⟩
  cases hx
  refine ⟨fun hlt => ?_, fun hge => ?_⟩
  · have hlt := cnt_lt hlt
    obtain ⟨b, o, hpb, g0, gn, hc⟩ := (s.ext x1).at (i := i) (by omega)
    obtain ⟨y0, y1, y2, hr⟩ := hs rows[i] (List.getElem_mem _)
    have hcall := hp rows[i] (List.getElem_mem _) hp1 x1
    rw [hr] at hc hcall
    refine ⟨b, o, hpb, g0, gn, _, _, _, hc, f, #[], cap, rfl, hb, CallsH.mono hcall ?_⟩
    rintro en h2 ⟨rfl, x2⟩
    refine ⟨_, rfl, fun ht => ?_, fun hf => ?_⟩
    · have : i = k := by
        rcases Nat.lt_or_ge i k with h3 | h3
        · have := h0 i h3; rw [hr] at this; rw [this] at ht; cases ht
        · omega
      subst this
      exact ⟨rfl, x1.trans x2⟩
    · have : i ≠ k := by rintro rfl; rw [hr] at h1; rw [h1] at hf; cases hf
      exact cnt_next hlt hn ⟨by omega, x1.trans x2⟩
  · have := cnt_ge hi hge
    omega

theorem idx103_no {h : Hp} {p : Option Addr} {n c : Nat} {rows : List (List Value)} (s : SegS h p n 3 rows) (hn : n ≤ 4611686018427387904) (hs : ∀ r ∈ rows, ∃ (y0 : ByteArray) (y1 : ByteArray) (y2 : Int), r = [.string y0, .string y1, .int .i64 y2]) {f : FuncId} {cap : Array Value} (hb : bodied Tryz.prog f = true) {pr : List Value → Bool}
    (hp : ∀ r ∈ rows, ∀ h', Ext h h' → CallsH Tryz.prog f ((.agg r.toArray) :: cap.toList).toArray h' (RetX (.bool (pr r)) h')) (h0 : ∀ r ∈ rows, pr r = false) :
    CallsH Tryz.prog 103 #[.slice p n c, .func (.func f) #[] cap] h (RetX (vZ (-1)) h) := by
  have hl : rows.length = n := s.1
  refine V103 _ _ _ _ h _ ⟨cntI n fun i hp => Ext h hp, cntM n, cnt_0 (Ext.refl _), ?_⟩
  rintro x hp1 ⟨i, hi, hx, x1⟩
  cases hx
  refine ⟨fun hlt => ?_, fun hge => ⟨rfl, x1⟩⟩
  have hlt := cnt_lt hlt
  obtain ⟨b, o, hpb, g0, gn, hc⟩ := (s.ext x1).at (i := i) (by omega)
  obtain ⟨y0, y1, y2, hr⟩ := hs rows[i] (List.getElem_mem _)
  have hcall := hp rows[i] (List.getElem_mem _) hp1 x1
  have hf0 := h0 rows[i] (List.getElem_mem _)
  rw [hr] at hc hcall hf0
  refine ⟨b, o, hpb, g0, gn, _, _, _, hc, f, #[], cap, rfl, hb, CallsH.mono hcall ?_⟩
  rintro en h2 ⟨rfl, x2⟩
  refine ⟨_, rfl, fun ht => ?_, fun hf => cnt_next hlt hn (x1.trans x2)⟩
  rw [hf0] at ht; cases ht

theorem idx53_at {h : Hp} {p : Option Addr} {n c : Nat} {rows : List (List Value)} (s : SegS h p n 1 rows) (hn : n ≤ 4611686018427387904) (hs : ∀ r ∈ rows, ∃ (y0 : Option Addr), r = [.pointer y0]) {f : FuncId} {cap : Array Value} (hb : bodied Tryz.prog f = true) {pr : List Value → Bool}
    (hp : ∀ r ∈ rows, ∀ h', Ext h h' → CallsH Tryz.prog f ((r.headD undef) :: cap.toList).toArray h' (RetX (.bool (pr r)) h')) {k : Nat} (hk : k < rows.length) (h1 : pr rows[k] = true) (h0 : ∀ j (hj : j < k), pr (rows[j]'(by omega)) = false) :
    CallsH Tryz.prog 53 #[.slice p n c, .func (.func f) #[] cap] h (RetX (vI k) h) := by
  have hl : rows.length = n := s.1
  refine V53 _ _ _ _ h _ ⟨cntI n fun i hp => i ≤ k ∧ Ext h hp, cntM n, cnt_0 ⟨Nat.zero_le _, Ext.refl _⟩, ?_⟩
  rintro x hp1 ⟨i, hi, hx, hik, x1⟩
  cases hx
  refine ⟨fun hlt => ?_, fun hge => ?_⟩
  · have hlt := cnt_lt hlt
    obtain ⟨b, o, hpb, g0, gn, hc⟩ := (s.ext x1).at (i := i) (by omega)
    obtain ⟨y0, hr⟩ := hs rows[i] (List.getElem_mem _)
    have hcall := hp rows[i] (List.getElem_mem _) hp1 x1
    rw [hr] at hc hcall
    refine ⟨b, o, hpb, g0, gn, _, hc, f, #[], cap, rfl, hb, CallsH.mono hcall ?_⟩
    rintro en h2 ⟨rfl, x2⟩
    refine ⟨_, rfl, fun ht => ?_, fun hf => ?_⟩
    · have : i = k := by
        rcases Nat.lt_or_ge i k with h3 | h3
        · have := h0 i h3; rw [hr] at this; rw [this] at ht; cases ht
        · omega
      subst this
      exact ⟨rfl, x1.trans x2⟩
    · have : i ≠ k := by rintro rfl; rw [hr] at h1; rw [h1] at hf; cases hf
      exact cnt_next hlt hn ⟨by omega, x1.trans x2⟩
  · have := cnt_ge hi hge
    omega

end Go.Vc
