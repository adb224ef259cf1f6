/- Facts about the conditions: maps, segments of memory, texts from bytes and bytes from texts. -/
import Derived.Test.YtamhpfdcnfgngaaGreatVcG
import Derived.MapKept
set_option maxRecDepth 10000
namespace Go.Vc
open Go Go.MapKept

/-! ## Segments of one-cell parts -/

section
variable {h h' : Hp} {p : Option Addr} {n : Nat} {xs : List Value}

theorem Seg.nil : Seg h p 0 [] := ⟨rfl, .inl rfl⟩
theorem Seg.ext (s : Seg h p n xs) (x : Ext h h') : Seg h' p n xs := ⟨s.1, s.2.imp id fun ⟨b, o, hp, hc⟩ => ⟨b, o, hp, x.cells hc⟩⟩
theorem Seg.at (s : Seg h p n xs) {i : Nat} (hi : i < xs.length) : ∃ b o, p = some ⟨b, o, none⟩ ∧ cellsAt h b (o + Int.toNat (i : Int) * 1) [xs[i]] := by
  rcases s.2 with rfl | ⟨b, o, hp, hc⟩
  · cases hi
  · refine ⟨b, o, hp, cellsAt_one ?_⟩
    rw [Int.toNat_natCast, Nat.mul_one]
    exact cellsAt_iff.1 hc i hi

theorem Seg.text {l : List ByteArray} (s : Seg h p n (l.map Value.string)) {i : Nat} (hi : i < l.length) {K : ByteArray → Prop} (hK : K l[i]) :
    ∃ b o, p = some ⟨b, o, none⟩ ∧ 0 ≤ (i : Int) ∧ (i : Int) < n ∧ ∃ x : ByteArray, cellsAt h b (o + Int.toNat (i : Int) * 1) [Value.string x] ∧ K x := by
  obtain ⟨b, o, hp, hc⟩ := s.at (i := i) (by simpa using hi)
  refine ⟨b, o, hp, by omega, ?_, _, by simpa using hc, hK⟩
  have := s.1
  simp at this; omega

theorem Own.len {base : Nat} {e : TypeId} {c m : Nat} (o : Own h base e 1 (.slice p m c) n xs) : m = n ∧ xs.length = n ∧ n ≤ c := by
  obtain ⟨h1, h2, h3, _⟩ := o.read rfl
  exact ⟨h1, h2, h3⟩

theorem Seg.drop (s : Seg h p n xs) {l m : Nat} (hlm : l ≤ m) (hm : m ≤ n) {p' : Option Addr} (hp' : l < m → p' = p.map (·.add l)) : Seg h p' (m - l) ((xs.take m).drop l) := by
  have hl := s.1
  refine ⟨by simp; omega, ?_⟩
  by_cases h0 : l = m
  · exact .inl (by subst h0; simp)
  · rcases s.2 with rfl | ⟨b, o, hp, hc⟩
    · exact .inl (by simp)
    · refine .inr ⟨b, o + l, by rw [hp' (by omega), hp, Option.map_some, addr_add], cellsAt_iff.2 fun j hj => ?_⟩
      have hj' : l + j < xs.length := by simp at hj; omega
      have := cellsAt_iff.1 hc (l + j) hj'
      rw [show o + l + j = o + (l + j) by omega, this]
      simp

end

/-! ## Maps -/

def MapAt (h : Hp) (r : Nat) (l : List (Value × Value)) : Prop := ∃ es clock, h[r]? = some (.map es clock) ∧ es.toList.map (fun e => (e.key, e.val)) = l

theorem MapAt.congr {h h' : Hp} {r : Nat} {l : List (Value × Value)} (m : MapAt h r l) (e : h'[r]? = h[r]?) : MapAt h' r l := by
  obtain ⟨es, c, h1, h2⟩ := m
  exact ⟨es, c, e.trans h1, h2⟩
theorem MapAt.ext {h h' : Hp} {r : Nat} {l : List (Value × Value)} (m : MapAt h r l) (x : Ext h h') : MapAt h' r l := by
  obtain ⟨es, c, h1, h2⟩ := m
  exact ⟨es, c, (x.old r (Array.getElem?_eq_some_iff.1 h1).1).trans h1, h2⟩
theorem MapAt.lt {h : Hp} {r : Nat} {l : List (Value × Value)} (m : MapAt h r l) : r < h.size := by
  obtain ⟨es, c, h1, h2⟩ := m
  exact (Array.getElem?_eq_some_iff.1 h1).1
theorem MapAt.new (h : Hp) : MapAt (h.push (.map #[] 0)) h.size [] := ⟨#[], 0, push_last, rfl⟩

section
variable {P : Program} {t kt et : TypeId} {d : TypeDesc} {h : Hp} {r : Nat} {l : List (Value × Value)}

structure MapT (P : Program) (t kt et : TypeId) (d : TypeDesc) (z : Value) : Prop where
  ht : P.underlying t = some (.map kt et)
  hd : P.underlying kt = some d
  hz : (P.info? et).bind (·.zero) = some z

theorem semH_lookup {z k : Value} {ok : Bool} (T : MapT P t kt et d z) (m : MapAt h r l) (hks : ∀ x ∈ l, IsKey d x.1) (hk : IsKey d k) {R : Value → Hp → Prop}
    (h0 : (∀ x ∈ l, x.1 ≠ k) → R (if ok then .tuple #[z, .bool false] else z) h)
    (h1 : ∀ (v : Value) (j : Nat), l[j]? = some (k, v) → R (if ok then .tuple #[v, .bool true] else v) h) : SemH P (Instr.lookup t (.map (some r)) k ok) h R := by
  obtain ⟨es, c, hb, rfl⟩ := m
  obtain ⟨i, hi, hz⟩ := Option.bind_eq_some_iff.1 T.hz
  have hks' : ∀ x ∈ es.toList, IsKey d x.key := fun x hx => hks (x.key, x.val) (List.mem_map.2 ⟨x, hx, rfl⟩)
  rcases findNow_spec hk es.toList 0 hks' with ⟨hf, hn⟩ | ⟨j, e, hf, hj, hek⟩
  · refine SemH.ok (h' := h) (fun w hw => ⟨w, ?_, Rest.refl w, hw⟩) (h0 fun x hx => ?_)
    · subst hw
      simp [Instr.lookup, run_underlying T.ht, MapKept.run_getObj_map hb, MapKept.run_checkKey T.hd hk, MapKept.run_findKey T.hd hf, zeroValue, typeInfo, hi, hz]
    · obtain ⟨e, he, rfl⟩ := List.mem_map.1 hx
      exact hn e he
  · refine SemH.ok (h' := h) (fun w hw => ⟨w, ?_, Rest.refl w, hw⟩) (h1 e.val j ?_)
    · subst hw
      simp [Instr.lookup, run_underlying T.ht, MapKept.run_getObj_map hb, MapKept.run_checkKey T.hd hk, MapKept.run_findKey T.hd hf]
    · rw [List.getElem?_map, hj]; simp [hek]

theorem semH_mapNew {z k v : Value} (T : MapT P t kt et d z) (m : MapAt h r l) (hks : ∀ x ∈ l, IsKey d x.1) (hk : IsKey d k) (hn : ∀ x ∈ l, x.1 ≠ k) {R : Unit → Hp → Prop}
    (hR : ∀ h', MapAt h' r (l ++ [(k, v)]) → h'.size = h.size → (∀ b, b ≠ r → h'[b]? = h[b]?) → R () h') : SemH P (Instr.mapUpdate t (.map (some r)) k v) h R := by
  obtain ⟨es, c, hb, rfl⟩ := m
  have hks' : ∀ x ∈ es.toList, IsKey d x.key := fun x hx => hks (x.key, x.val) (List.mem_map.2 ⟨x, hx, rfl⟩)
  have hlt := (Array.getElem?_eq_some_iff.1 hb).1
  rcases findNow_spec hk es.toList 0 hks' with ⟨hf, _⟩ | ⟨j, e, hf, hj, hek⟩
  · refine SemH.ok (h' := h.setIfInBounds r (.map (es.push { key := k, val := v, born := c }) (c + 1))) (fun w hw => ⟨{ w with heap := h.setIfInBounds r (.map (es.push { key := k, val := v, born := c }) (c + 1)) }, ?_, ⟨rfl, rfl, rfl⟩, rfl⟩) (hR _ ⟨es.push { key := k, val := v, born := c }, c + 1, by simp [hlt], by simp⟩ (by simp) (fun b hne => by simp [Ne.symm hne]))
    · subst hw
      simp [Instr.mapUpdate, run_underlying T.ht, MapKept.run_getObj_map hb, MapKept.run_checkKey T.hd hk, MapKept.run_findKey T.hd hf, MapKept.run_setObj_map _ hb]
  · exact (hn _ (List.mem_map.2 ⟨e, List.mem_of_getElem? hj, rfl⟩) hek).elim

end

/-! ## Texts and bytes -/

section
variable {P : Program} {s d e : TypeId} {h : Hp}

def byteVs (l : List UInt8) : List Value := l.map fun c => Value.int .u8 (c.toNat : Int)

theorem semH_toBytes (hs : P.underlying s = some .string) (hd : P.underlying d = some (.slice e)) (he : P.underlying e = some (.int .u8)) {t : ByteArray} {R : Value → Hp → Prop}
    (hR : ∀ c cur, cur.size = c → t.size ≤ c → cur.toList.take t.size = byteVs t.data.toList → R (.slice (some ⟨h.size, 0, none⟩) t.size c) (h.push (.cells cur e (c, c + 1)))) :
    SemH P (convert s d (.string t)) h R := by
  intro w hw
  subst hw
  have hge := grownCap_ge w t.size 0 e
  have hsz : (Lib.bytesCells w e t).size = grownCap w t.size 0 e := by
    simp only [Lib.bytesCells, Array.size_append, Array.size_map, Array.size_replicate]
    have : t.data.size = t.size := rfl
    omega
  refine ⟨_, _, Lib.run_convert_string_bytes w s d e t hs hd he, ⟨rfl, rfl, rfl⟩, ?_⟩
  have hheap : (Lib.bytesWorld w e t).heap = w.heap.push (.cells (Lib.bytesCells w e t) e (grownCap w t.size 0 e, grownCap w t.size 0 e + 1)) := by
    apply Array.ext_getElem?
    intro i
    rcases Nat.lt_trichotomy i w.heap.size with hi | hi | hi
    · rw [Lib.bytesWorld_at_old w e t i hi, (Ext.push w.heap _).old i hi]
    · subst hi; rw [Lib.bytesWorld_at_new, push_last, hsz]
    · rw [Array.getElem?_eq_none (by rw [Lib.bytesWorld_size]; omega), Array.getElem?_eq_none (by simp; omega)]
  rw [hheap]
  refine hR _ _ hsz hge ?_
  simp only [Lib.bytesCells, Array.toList_append, Array.toList_map, byteVs]
  rw [List.take_append_of_le_length (by simp), List.take_of_length_le (by simp)]

end

end Go.Vc
