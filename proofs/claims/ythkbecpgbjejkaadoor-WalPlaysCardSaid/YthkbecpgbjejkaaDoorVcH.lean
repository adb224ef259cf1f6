/- Facts about the conditions: maps, segments of memory, texts from bytes and bytes from texts. -/
import Derived.Test.YthkbecpgbjejkaaDoorVcG
import Derived.MapKept
set_option maxRecDepth 10000
namespace Go.Vc
open Go Go.MapKept

/-! ## Segments of one-cell parts -/

section
variable {h h' : Hp} {p : Option Addr} {n : Nat} {xs : List Value}

theorem Seg.nil : Seg h p 0 [] := ⟨rfl, .inl rfl⟩
theorem Seg.ext (s : Seg h p n xs) (x : Ext h h') : Seg h' p n xs := ⟨s.1, s.2.imp id fun ⟨b, o, hp, hc⟩ => ⟨b, o, hp, x.cells hc⟩⟩
theorem Seg.at (s : Seg h p n xs) {i : Nat} (hi : i < xs.length) : ∃ b o, p = some ⟨b, o, none⟩ ∧ cellsAt h b (o + Int.toNat (i : Int) * 1) [xs[i]] := by
  rcases s.2 with rfl | ⟨b, o, hp, hc⟩
  · cases hi
  · refine ⟨b, o, hp, cellsAt_one ?_⟩
    rw [Int.toNat_natCast, Nat.mul_one]
    exact cellsAt_iff.1 hc i hi

/-- An access of a segment of texts, as a condition asks it. -/
theorem Seg.text {l : List ByteArray} (s : Seg h p n (l.map Value.string)) {i : Nat} (hi : i < l.length) {K : ByteArray → Prop} (hK : K l[i]) :
    ∃ b o, p = some ⟨b, o, none⟩ ∧ 0 ≤ (i : Int) ∧ (i : Int) < n ∧ ∃ x : ByteArray, cellsAt h b (o + Int.toNat (i : Int) * 1) [Value.string x] ∧ K x := by
  obtain ⟨b, o, hp, hc⟩ := s.at (i := i) (by simpa using hi)
  refine ⟨b, o, hp, by omega, ?_, _, by simpa using hc, hK⟩
  have := s.1
  simp at this; omega

theorem Seg.num {k : IntKind} {l : List Int} (s : Seg h p n (l.map (Value.int k))) {i : Nat} (hi : i < l.length) {K : Int → Prop} (hK : K l[i]) :
    ∃ b o, p = some ⟨b, o, none⟩ ∧ 0 ≤ (i : Int) ∧ (i : Int) < n ∧ ∃ x : Int, cellsAt h b (o + Int.toNat (i : Int) * 1) [Value.int k x] ∧ K x := by
  obtain ⟨b, o, hp, hc⟩ := s.at (i := i) (by simpa using hi)
  refine ⟨b, o, hp, by omega, ?_, _, by simpa using hc, hK⟩
  have := s.1
  simp at this; omega

theorem Own.seg {base : Nat} {e : TypeId} {c : Nat} (o : Own h base e 1 (.slice p n c) n xs) : Seg h p n xs := by
  have hl : xs.length = n := by have := o.1; omega
  refine ⟨hl, ?_⟩
  obtain ⟨_, _, _, h0, hr⟩ := o.read rfl
  cases xs with
  | nil => exact .inl rfl
  | cons x r =>
    obtain ⟨b, hp, _⟩ := hr 0 (by simp)
    refine .inr ⟨b, 0, hp, cellsAt_iff.2 fun j hj => ?_⟩
    obtain ⟨b', hp', hc⟩ := hr j hj
    rw [hp] at hp'
    cases hp'
    rw [Nat.zero_add]; exact hc

theorem Own.len {base : Nat} {e : TypeId} {c m : Nat} (o : Own h base e 1 (.slice p m c) n xs) : m = n ∧ xs.length = n ∧ n ≤ c := by
  obtain ⟨h1, h2, h3, _⟩ := o.read rfl
  exact ⟨h1, h2, h3⟩

/-- A part of a segment. -/
theorem Seg.drop (s : Seg h p n xs) {l m : Nat} (hlm : l ≤ m) (hm : m ≤ n) {p' : Option Addr} (hp' : l < m → p' = p.map (·.add l)) : Seg h p' (m - l) ((xs.take m).drop l) := by
  have hl := s.1
  refine ⟨by simp; omega, ?_⟩
  by_cases h0 : l = m
  · exact .inl (by subst h0; simp)
  · rcases s.2 with rfl | ⟨b, o, hp, hc⟩
    · exact .inl (by simp)
    · refine .inr ⟨b, o + l, by rw [hp' (by omega), hp, Option.map_some, addr_add], cellsAt_iff.2 fun j hj => ?_⟩
      have hj' : l + j < xs.length := by simp at hj; omega
      have := cellsAt_iff.1 hc (l + j) hj'
      rw [show o + l + j = o + (l + j) by omega, this]
      simp

end

/-! ## Maps -/

/-- A map of these entries, in the order of their birth. -/
def MapAt (h : Hp) (r : Nat) (l : List (Value × Value)) : Prop := ∃ es clock, h[r]? = some (.map es clock) ∧ es.toList.map (fun e => (e.key, e.val)) = l

theorem MapAt.congr {h h' : Hp} {r : Nat} {l : List (Value × Value)} (m : MapAt h r l) (e : h'[r]? = h[r]?) : MapAt h' r l := by
  obtain ⟨es, c, h1, h2⟩ := m
  exact ⟨es, c, e.trans h1, h2⟩
theorem MapAt.ext {h h' : Hp} {r : Nat} {l : List (Value × Value)} (m : MapAt h r l) (x : Ext h h') : MapAt h' r l := by
  obtain ⟨es, c, h1, h2⟩ := m
  exact ⟨es, c, (x.old r (Array.getElem?_eq_some_iff.1 h1).1).trans h1, h2⟩
theorem MapAt.lt {h : Hp} {r : Nat} {l : List (Value × Value)} (m : MapAt h r l) : r < h.size := by
  obtain ⟨es, c, h1, h2⟩ := m
  exact (Array.getElem?_eq_some_iff.1 h1).1
theorem MapAt.new (h : Hp) : MapAt (h.push (.map #[] 0)) h.size [] := ⟨#[], 0, push_last, rfl⟩

section
variable {P : Program} {t kt et : TypeId} {d : TypeDesc} {h : Hp} {r : Nat} {l : List (Value × Value)}

/-- What is known of a map's type. -/
structure MapT (P : Program) (t kt et : TypeId) (d : TypeDesc) (z : Value) : Prop where
  ht : P.underlying t = some (.map kt et)
  hd : P.underlying kt = some d
  hz : (P.info? et).bind (·.zero) = some z

theorem semH_lookup {z k : Value} {ok : Bool} (T : MapT P t kt et d z) (m : MapAt h r l) (hks : ∀ x ∈ l, IsKey d x.1) (hk : IsKey d k) {R : Value → Hp → Prop}
    (h0 : (∀ x ∈ l, x.1 ≠ k) → R (if ok then .tuple #[z, .bool false] else z) h)
    (h1 : ∀ (v : Value) (j : Nat), l[j]? = some (k, v) → R (if ok then .tuple #[v, .bool true] else v) h) : SemH P (Instr.lookup t (.map (some r)) k ok) h R := by
  obtain ⟨es, c, hb, rfl⟩ := m
  obtain ⟨i, hi, hz⟩ := Option.bind_eq_some_iff.1 T.hz
  have hks' : ∀ x ∈ es.toList, IsKey d x.key := fun x hx => hks (x.key, x.val) (List.mem_map.2 ⟨x, hx, rfl⟩)
  rcases findNow_spec hk es.toList 0 hks' with ⟨hf, hn⟩ | ⟨j, e, hf, hj, hek⟩
  · refine SemH.ok (h' := h) (fun w hw => ⟨w, ?_, Rest.refl w, hw⟩) (h0 fun x hx => ?_)
    · subst hw
      simp [Instr.lookup, run_underlying T.ht, MapKept.run_getObj_map hb, MapKept.run_checkKey T.hd hk, MapKept.run_findKey T.hd hf, zeroValue, typeInfo, hi, hz]
    · obtain ⟨e, he, rfl⟩ := List.mem_map.1 hx
      exact hn e he
  · refine SemH.ok (h' := h) (fun w hw => ⟨w, ?_, Rest.refl w, hw⟩) (h1 e.val j ?_)
    · subst hw
      simp [Instr.lookup, run_underlying T.ht, MapKept.run_getObj_map hb, MapKept.run_checkKey T.hd hk, MapKept.run_findKey T.hd hf]
    · rw [List.getElem?_map, hj]; simp [hek]

theorem semH_lenMap {z : Value} {ty : TypeId} (T : MapT P t kt et d z) (m : MapAt h r l) {R : Value → Hp → Prop} (hR : R (.int .i64 (l.length : Int)) h) : SemH P (Builtin.len_ #[t] ty #[.map (some r)]) h R := by
  obtain ⟨es, c, hb, rfl⟩ := m
  refine SemH.ok (h' := h) (fun w hw => ⟨w, ?_, Rest.refl w, hw⟩) hR
  subst hw
  simp [Builtin.len_, run_underlying T.ht, MapKept.run_getObj_map hb, goInt]

/-- An entry that is new. -/
theorem semH_mapNew {z k v : Value} (T : MapT P t kt et d z) (m : MapAt h r l) (hks : ∀ x ∈ l, IsKey d x.1) (hk : IsKey d k) (hn : ∀ x ∈ l, x.1 ≠ k) {R : Unit → Hp → Prop}
    (hR : ∀ h', MapAt h' r (l ++ [(k, v)]) → h'.size = h.size → (∀ b, b ≠ r → h'[b]? = h[b]?) → R () h') : SemH P (Instr.mapUpdate t (.map (some r)) k v) h R := by
  obtain ⟨es, c, hb, rfl⟩ := m
  have hks' : ∀ x ∈ es.toList, IsKey d x.key := fun x hx => hks (x.key, x.val) (List.mem_map.2 ⟨x, hx, rfl⟩)
  have hlt := (Array.getElem?_eq_some_iff.1 hb).1
  rcases findNow_spec hk es.toList 0 hks' with ⟨hf, _⟩ | ⟨j, e, hf, hj, hek⟩
  · refine SemH.ok (h' := h.setIfInBounds r (.map (es.push { key := k, val := v, born := c }) (c + 1))) (fun w hw => ⟨{ w with heap := h.setIfInBounds r (.map (es.push { key := k, val := v, born := c }) (c + 1)) }, ?_, ⟨rfl, rfl, rfl⟩, rfl⟩) (hR _ ⟨es.push { key := k, val := v, born := c }, c + 1, by simp [hlt], by simp⟩ (by simp) (fun b hne => by simp [Ne.symm hne]))
    · subst hw
      simp [Instr.mapUpdate, run_underlying T.ht, MapKept.run_getObj_map hb, MapKept.run_checkKey T.hd hk, MapKept.run_findKey T.hd hf, MapKept.run_setObj_map _ hb]
  · exact (hn _ (List.mem_map.2 ⟨e, List.mem_of_getElem? hj, rfl⟩) hek).elim

/-- An entry that is there already. -/
theorem semH_mapOld {z k v u : Value} (T : MapT P t kt et d z) (m : MapAt h r l) (hks : ∀ x ∈ l, IsKey d x.1) (hk : IsKey d k) (hn : (k, u) ∈ l) {R : Unit → Hp → Prop}
    (hR : ∀ h' (j : Nat) u', l[j]? = some (k, u') → MapAt h' r (l.set j (k, v)) → h'.size = h.size → (∀ b, b ≠ r → h'[b]? = h[b]?) → R () h') : SemH P (Instr.mapUpdate t (.map (some r)) k v) h R := by
  obtain ⟨es, c, hb, rfl⟩ := m
  have hks' : ∀ x ∈ es.toList, IsKey d x.key := fun x hx => hks (x.key, x.val) (List.mem_map.2 ⟨x, hx, rfl⟩)
  have hlt := (Array.getElem?_eq_some_iff.1 hb).1
  rcases findNow_spec hk es.toList 0 hks' with ⟨hf, hno⟩ | ⟨j, e, hf, hj, hek⟩
  · obtain ⟨e, he, hke⟩ := List.mem_map.1 hn
    cases hke
    exact (hno e he rfl).elim
  · have hj' : es[j]? = some e := by simpa using hj
    have hjl : j < es.size := (Array.getElem?_eq_some_iff.1 hj').1
    refine SemH.ok (h' := h.setIfInBounds r (.map (es.modify j fun e => { e with key := k, val := v }) c)) (fun w hw => ⟨{ w with heap := h.setIfInBounds r (.map (es.modify j fun e => { e with key := k, val := v }) c) }, ?_, ⟨rfl, rfl, rfl⟩, rfl⟩)
      (hR _ j e.val (by rw [List.getElem?_map, hj]; simp [hek]) ⟨es.modify j fun e => { e with key := k, val := v }, c, by simp [hlt], ?_⟩ (by simp) (fun b hne => by simp [Ne.symm hne]))
    · subst hw
      simp [Instr.mapUpdate, run_underlying T.ht, MapKept.run_getObj_map hb, MapKept.run_checkKey T.hd hk, MapKept.run_findKey T.hd hf, MapKept.run_setObj_map _ hb, hj', hek, run_keyThatStays hk]
    · apply List.ext_getElem?
      intro i
      simp only [List.getElem?_map, Array.getElem?_toList, Array.getElem?_modify, List.getElem?_set, List.length_map, Array.length_toList]
      by_cases hij : j = i
      · subst hij
        rw [if_pos rfl, if_pos rfl, if_pos hjl, hj']; rfl
      · rw [if_neg hij, if_neg hij]

theorem semH_clearMap {ty : TypeId} {z : Value} (T : MapT P t kt et d z) (m : MapAt h r l) {R : Value → Hp → Prop}
    (hR : ∀ h', MapAt h' r [] → h'.size = h.size → (∀ b, b ≠ r → h'[b]? = h[b]?) → R (.tuple #[]) h') : SemH P (Builtin.clear_ #[t] ty #[.map (some r)]) h R := by
  obtain ⟨es, c, hb, rfl⟩ := m
  have hlt := (Array.getElem?_eq_some_iff.1 hb).1
  refine SemH.ok (h' := h.setIfInBounds r (.map #[] c)) (fun w hw => ⟨{ w with heap := h.setIfInBounds r (.map #[] c) }, ?_, ⟨rfl, rfl, rfl⟩, rfl⟩) (hR _ ⟨#[], c, by simp [hlt], rfl⟩ (by simp) (fun b hne => by simp [Ne.symm hne]))
  subst hw
  simp [Builtin.clear_, run_underlying T.ht, MapKept.run_getObj_map hb, MapKept.run_setObj_map _ hb]

end

/-! ## Texts and bytes -/

section
variable {P : Program} {s d e : TypeId} {h : Hp}

/-- The bytes of a text, as values. -/
def byteVs (l : List UInt8) : List Value := l.map fun c => Value.int .u8 (c.toNat : Int)

theorem semH_toBytes (hs : P.underlying s = some .string) (hd : P.underlying d = some (.slice e)) (he : P.underlying e = some (.int .u8)) {t : ByteArray} {R : Value → Hp → Prop}
    (hR : ∀ c cur, cur.size = c → t.size ≤ c → cur.toList.take t.size = byteVs t.data.toList → R (.slice (some ⟨h.size, 0, none⟩) t.size c) (h.push (.cells cur e (c, c + 1)))) :
    SemH P (convert s d (.string t)) h R := by
  intro w hw
  subst hw
  have hge := grownCap_ge w t.size 0 e
  have hsz : (Lib.bytesCells w e t).size = grownCap w t.size 0 e := by
    simp only [Lib.bytesCells, Array.size_append, Array.size_map, Array.size_replicate]
    have : t.data.size = t.size := rfl
    omega
  refine ⟨_, _, Lib.run_convert_string_bytes w s d e t hs hd he, ⟨rfl, rfl, rfl⟩, ?_⟩
  have hheap : (Lib.bytesWorld w e t).heap = w.heap.push (.cells (Lib.bytesCells w e t) e (grownCap w t.size 0 e, grownCap w t.size 0 e + 1)) := by
    apply Array.ext_getElem?
    intro i
    rcases Nat.lt_trichotomy i w.heap.size with hi | hi | hi
    · rw [Lib.bytesWorld_at_old w e t i hi, (Ext.push w.heap _).old i hi]
    · subst hi; rw [Lib.bytesWorld_at_new, push_last, hsz]
    · rw [Array.getElem?_eq_none (by rw [Lib.bytesWorld_size]; omega), Array.getElem?_eq_none (by simp; omega)]
  rw [hheap]
  refine hR _ _ hsz hge ?_
  simp only [Lib.bytesCells, Array.toList_append, Array.toList_map, byteVs]
  rw [List.take_append_of_le_length (by simp), List.take_of_length_le (by simp)]

theorem semH_toText (hs : P.underlying s = some (.slice e)) (he : P.underlying e = some (.int .u8)) (hd : P.underlying d = some .string) {p : Option Addr} {n c : Nat} {t : ByteArray} (hseg : Seg h p n (byteVs t.data.toList)) {R : Value → Hp → Prop}
    (hR : R (.string t) h) : SemH P (convert s d (.slice p n c)) h R := by
  have hn : t.size = n := by have := hseg.1; simpa [byteVs] using this
  refine SemH.ok (h' := h) (fun w hw => ⟨w, ?_, Rest.refl w, hw⟩) hR
  subst hw
  subst hn
  rcases hseg.2 with h0 | ⟨b, o, hp, hc⟩
  · have h0' : t.data.toList = [] := by simpa [byteVs] using h0
    have ht : t = ByteArray.empty := by
      apply ByteArray.ext; apply Array.toList_inj.1; rw [h0']; rfl
    subst ht
    rw [run_convert_bytes_string w s d e p _ c hs he hd]
    cases p <;> simp [Conv.bytesToString, loadCells, loadCellsFrom] <;> rfl
  · subst hp
    refine Lib.run_convert_whole w s e d hs he hd b o t ?_ c
    intro i hi
    have := cellsAt_iff.1 hc i (by simpa [byteVs] using hi)
    simp only [byteVs, List.getElem_map, Array.getElem_toList] at this
    exact this

theorem run_toText (hs : P.underlying s = some (.slice e)) (he : P.underlying e = some (.int .u8)) (hd : P.underlying d = some .string) {p : Option Addr} {n c : Nat} {t : ByteArray} (w : World) (hseg : Seg w.heap p n (byteVs t.data.toList)) :
    (convert s d (.slice p n c)).run P w = .ok (.string t) w := by
  have hn : t.size = n := by have := hseg.1; simpa [byteVs] using this
  subst hn
  rcases hseg.2 with h0 | ⟨b, o, hp, hc⟩
  · have h0' : t.data.toList = [] := by simpa [byteVs] using h0
    have ht : t = ByteArray.empty := by
      apply ByteArray.ext; apply Array.toList_inj.1; rw [h0']; rfl
    subst ht
    rw [run_convert_bytes_string w s d e p _ c hs he hd]
    cases p <;> simp [Conv.bytesToString, loadCells, loadCellsFrom] <;> rfl
  · subst hp
    refine Lib.run_convert_whole w s e d hs he hd b o t ?_ c
    intro i hi
    have := cellsAt_iff.1 hc i (by simpa [byteVs] using hi)
    simp only [byteVs, List.getElem_map, Array.getElem_toList] at this
    exact this

end

end Go.Vc
