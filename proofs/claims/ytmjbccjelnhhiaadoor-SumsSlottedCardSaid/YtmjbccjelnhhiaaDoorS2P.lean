/- The plain law of the slots. -/
set_option maxRecDepth 10000
namespace Go.Vc

/-- Where a walk ends that steps over what is taken. -/
def seek (S : Nat → Bool) (m : Nat) : Nat → Nat → Nat
  | 0, a => a
  | k + 1, a => bif S a then seek S m k ((a + 1) % m) else a

theorem step_mod {a m : Nat} (j : Nat) (_ : a < m) : ((a + 1) % m + j) % m = (a + (j + 1)) % m := by
  rw [Nat.add_mod, Nat.mod_mod, ← Nat.add_mod]; congr 1; omega

theorem seek_spec (S : Nat → Bool) (m : Nat) : ∀ (n a : Nat), a < m → (∃ k, k < n ∧ S ((a + k) % m) = false) →
    ∃ k, k < n ∧ seek S m n a = (a + k) % m ∧ S ((a + k) % m) = false ∧ ∀ j, j < k → S ((a + j) % m) = true := by
  intro n
  induction n with
  | zero => rintro a _ ⟨k, hk, _⟩; omega
  | succ n ih =>
    rintro a ha ⟨k, hk, hS⟩
    cases hSa : S a with
    | false =>
      refine ⟨0, by omega, ?_, ?_, fun j hj => by omega⟩
      · simp only [seek, hSa, cond_false, Nat.add_zero, Nat.mod_eq_of_lt ha]
      · rw [Nat.add_zero, Nat.mod_eq_of_lt ha]; exact hSa
    | true =>
      cases k with
      | zero => rw [Nat.add_zero, Nat.mod_eq_of_lt ha, hSa] at hS; cases hS
      | succ k =>
        obtain ⟨q, hq, h1, h2, h3⟩ := ih ((a + 1) % m) (Nat.mod_lt _ (by omega)) ⟨k, by omega, by rw [step_mod k ha]; exact hS⟩
        refine ⟨q + 1, by omega, ?_, ?_, ?_⟩
        · simp only [seek, hSa, cond_true, h1]; exact step_mod q ha
        · rw [← step_mod q ha]; exact h2
        · intro j hj
          cases j with
          | zero => rw [Nat.add_zero, Nat.mod_eq_of_lt ha]; exact hSa
          | succ j => rw [← step_mod j ha]; exact h3 j (by omega)

/-- Fewer than 'm' numbers leave one below 'm' out. -/
theorem one_out : ∀ (m : Nat) (l : List Nat), l.length < m → ∃ x, x < m ∧ ¬ x ∈ l := by
  intro m
  induction m with
  | zero => intro l h; omega
  | succ m ih =>
    intro l h
    by_cases hm : m ∈ l
    · obtain ⟨x, hx, hn⟩ := ih (l.filter (· ≠ m)) (by
        have : (l.filter (· ≠ m)).length < l.length := by
          apply Nat.lt_of_le_of_ne (List.length_filter_le _ _)
          intro he
          have := List.length_filter_eq_length_iff.1 he m hm
          simp at this
        omega)
      exact ⟨x, by omega, fun hxl => hn (List.mem_filter.2 ⟨hxl, by simp; omega⟩)⟩
    · exact ⟨m, by omega, hm⟩

/-- The first number that is free, from 'a' on. -/
def place (T : List Nat) (m a : Nat) : Nat := seek (fun x => T.contains x) m m a

theorem place_spec {T : List Nat} {m a : Nat} (ha : a < m) (h : T.length < m) :
    ∃ k, k < m ∧ place T m a = (a + k) % m ∧ ¬ (a + k) % m ∈ T ∧ ∀ j, j < k → (a + j) % m ∈ T := by
  obtain ⟨x, hx, hn⟩ := one_out m T h
  have hk : (a + (x + m - a) % m) % m = x := by
    rw [Nat.add_mod, Nat.mod_mod, ← Nat.add_mod, show a + (x + m - a) = x + m by omega, Nat.add_mod_right, Nat.mod_eq_of_lt hx]
  obtain ⟨k, h1, h2, h3, h4⟩ := seek_spec (fun x => T.contains x) m m a ha ⟨(x + m - a) % m, Nat.mod_lt _ (by omega), by rw [hk]; simpa using hn⟩
  exact ⟨k, h1, h2, by simpa using h3, fun j hj => by simpa using h4 j hj⟩

abbrev Known := List (ByteArray × Nat)

def Known.find (kn : Known) (s : ByteArray) : Option Nat := (List.find? (fun x => decide (x.1 = s)) kn).map (·.2)

/-- A text more. -/
def slotStep (f : ByteArray → Nat) (m : Nat) (st : Option (Known × List Nat)) (s : ByteArray) : Option (Known × List Nat) :=
  match st with
  | none => none
  | some (kn, out) => match kn.find s with
    | some a => some (kn, out ++ [a])
    | none => if m ≤ kn.length then none else some (kn ++ [(s, place (kn.map (·.2)) m (f s % m))], out ++ [place (kn.map (·.2)) m (f s % m)])

def slotsF (f : ByteArray → Nat) (m : Nat) (l : List ByteArray) : Option (Known × List Nat) := l.foldl (slotStep f m) (some ([], []))

theorem slotsF_snoc (f : ByteArray → Nat) (m : Nat) (l : List ByteArray) (s : ByteArray) : slotsF f m (l ++ [s]) = slotStep f m (slotsF f m l) s := by
  unfold slotsF; rw [List.foldl_append]; rfl

theorem slots_none (f : ByteArray → Nat) (m : Nat) (l r : List ByteArray) (h : slotsF f m l = none) : slotsF f m (l ++ r) = none := by
  unfold slotsF at *
  rw [List.foldl_append, h]
  clear h
  induction r with
  | nil => rfl
  | cons s r ih => exact ih

theorem slots_take_none {f : ByteArray → Nat} {m : Nat} {l : List ByteArray} {i : Nat} (h : slotsF f m (l.take i) = none) : slotsF f m l = none := by
  have := slots_none f m (l.take i) (l.drop i) h
  rwa [List.take_append_drop] at this

/-- What is known behind some texts. -/
structure SlotsOk (f : ByteArray → Nat) (m : Nat) (l : List ByteArray) (kn : Known) (out : List Nat) : Prop where
  len : out.length = l.length
  le : kn.length ≤ l.length
  keys : ∀ x, x ∈ kn → x.1 ∈ l
  slots : ∀ x, x ∈ kn → x.2 < m
  few : kn.length ≤ m
  nodupS : (kn.map (·.2)).Nodup
  nodupK : (kn.map (·.1)).Nodup
  there : ∀ k (hk : k < l.length) (hk' : k < out.length), (l[k], out[k]) ∈ kn

theorem find_some {kn : Known} {s : ByteArray} {a : Nat} (h : kn.find s = some a) : (s, a) ∈ kn := by
  unfold Known.find at h
  obtain ⟨x, hx, rfl⟩ := Option.map_eq_some_iff.1 h
  have h1 := List.mem_of_find?_eq_some hx
  have h2 := List.find?_some hx
  have h3 : x.1 = s := by simpa using h2
  subst h3
  exact h1

theorem find_none {kn : Known} {s : ByteArray} (h : kn.find s = none) : ∀ x ∈ kn, x.1 ≠ s := by
  unfold Known.find at h
  rw [Option.map_eq_none_iff] at h
  intro x hx
  have := List.find?_eq_none.1 h x hx
  simpa using this

theorem mem_inj {kn : Known} (hk : (kn.map (·.1)).Nodup) {s : ByteArray} {a b : Nat} (ha : (s, a) ∈ kn) (hb : (s, b) ∈ kn) : a = b := by
  induction kn with
  | nil => cases ha
  | cons x r ih =>
    simp only [List.map_cons, List.nodup_cons] at hk
    rcases List.mem_cons.1 ha with rfl | ha'
    · rcases List.mem_cons.1 hb with h | hb'
      · cases h; rfl
      · exact (hk.1 (List.mem_map.2 ⟨_, hb', rfl⟩)).elim
    · rcases List.mem_cons.1 hb with rfl | hb'
      · exact (hk.1 (List.mem_map.2 ⟨_, ha', rfl⟩)).elim
      · exact ih hk.2 ha' hb'

theorem find_of_mem {kn : Known} (hk : (kn.map (·.1)).Nodup) {s : ByteArray} {a : Nat} (ha : (s, a) ∈ kn) : kn.find s = some a := by
  cases h : kn.find s with
  | none => exact (find_none h _ ha rfl).elim
  | some b => rw [mem_inj hk ha (find_some h)]

theorem mem_inj2 {kn : Known} (hk : (kn.map (·.2)).Nodup) {s t : ByteArray} {a : Nat} (ha : (s, a) ∈ kn) (hb : (t, a) ∈ kn) : s = t := by
  induction kn with
  | nil => cases ha
  | cons x r ih =>
    simp only [List.map_cons, List.nodup_cons] at hk
    rcases List.mem_cons.1 ha with rfl | ha'
    · rcases List.mem_cons.1 hb with h | hb'
      · cases h; rfl
      · exact (hk.1 (List.mem_map.2 ⟨_, hb', rfl⟩)).elim
    · rcases List.mem_cons.1 hb with rfl | hb'
      · exact (hk.1 (List.mem_map.2 ⟨_, ha', rfl⟩)).elim
      · exact ih hk.2 ha' hb'

theorem slots_ok (f : ByteArray → Nat) (m : Nat) (hm : 0 < m) (l : List ByteArray) : ∀ kn out, slotsF f m l = some (kn, out) → SlotsOk f m l kn out := by
  have key : ∀ (r l : List ByteArray) kn out kn' out', SlotsOk f m l kn out → r.foldl (slotStep f m) (some (kn, out)) = some (kn', out') → SlotsOk f m (l ++ r) kn' out' := by
    intro r
    induction r with
    | nil => intro l kn out kn' out' h e; cases e; rw [List.append_nil]; exact h
    | cons s r ih =>
      intro l kn out kn' out' h e
      rw [show l ++ s :: r = (l ++ [s]) ++ r by simp]
      rw [List.foldl_cons] at e
      cases hs : slotStep f m (some (kn, out)) s with
      | none =>
        rw [hs] at e
        exfalso
        clear ih hs h
        induction r with
        | nil => cases e
        | cons t r ih => exact ih e
      | some st =>
        obtain ⟨kn1, out1⟩ := st
        rw [hs] at e
        refine ih _ _ _ _ _ ?_ e
        unfold slotStep at hs
        simp only at hs
        have there' : ∀ (kn1 : Known) (a : Nat), (∀ x ∈ kn, x ∈ kn1) → (s, a) ∈ kn1 → ∀ k (hk : k < (l ++ [s]).length) (hk' : k < (out ++ [a]).length), ((l ++ [s])[k], (out ++ [a])[k]) ∈ kn1 := by
          intro kn1 a hsub ha k hk hk'
          by_cases hkl : k < l.length
          · have := h.there k hkl (by rw [h.len]; exact hkl)
            rw [List.getElem_append_left hkl, List.getElem_append_left (by rw [h.len]; exact hkl)]
            exact hsub _ this
          · have hke : k = l.length := by simp at hk; omega
            subst hke
            rw [List.getElem_append_right (Nat.le_refl _), List.getElem_append_right (by rw [h.len]; exact Nat.le_refl _)]
            simpa using ha
        split at hs
        · rename_i a ha
          cases hs
          have ha := find_some ha
          exact ⟨by simp [h.len], by have := h.le; simp; omega, fun x hx => by have := h.keys x hx; simp [this], h.slots, h.few, h.nodupS, h.nodupK, there' kn _ (fun _ hx => hx) ha⟩
        · rename_i ha
          split at hs
          · cases hs
          · rename_i hfew
            cases hs
            have hfn := find_none ha
            obtain ⟨k, h1, h2, h3, h4⟩ := place_spec (T := kn.map (·.2)) (m := m) (a := f s % m) (Nat.mod_lt _ hm) (by simp; omega)
            rw [← h2] at h3
            refine ⟨by simp [h.len], by have := h.le; simp; omega, ?_, ?_, by simp; omega, ?_, ?_, there' _ _ (fun x hx => List.mem_append_left _ hx) (by simp)⟩
            · intro x hx
              rcases List.mem_append.1 hx with hx | hx
              · have := h.keys x hx; simp [this]
              · simp at hx; subst hx; simp
            · intro x hx
              rcases List.mem_append.1 hx with hx | hx
              · exact h.slots x hx
              · simp at hx; subst hx; rw [h2]; exact Nat.mod_lt _ hm
            · rw [List.map_append, List.nodup_append]
              refine ⟨h.nodupS, by simp, ?_⟩
              intro a ha b hb
              simp at hb
              subst hb
              rintro rfl
              exact h3 ha
            · rw [List.map_append, List.nodup_append]
              refine ⟨h.nodupK, by simp, ?_⟩
              intro a hax b hb
              simp at hb
              subst hb
              rintro rfl
              obtain ⟨x, hx, hxa⟩ := List.mem_map.1 hax
              exact hfn x hx hxa
  intro kn out e
  have := key l [] [] [] kn out ⟨rfl, Nat.le_refl _, by simp, by simp, Nat.zero_le _, by simp, by simp, by simp⟩ e
  simpa using this

end Go.Vc
