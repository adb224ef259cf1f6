/- The plain law of the slots, all together: their set does not hang on the texts' order. -/
import Derived.Test.YtmjbccjelnhhiaaDoorS2P
set_option maxRecDepth 10000
namespace Go.Vc

theorem place_congr {T T' : List Nat} (h : ∀ x, x ∈ T ↔ x ∈ T') (m a : Nat) : place T m a = place T' m a := by
  unfold place
  congr 1
  funext x
  have := h x
  rw [Bool.eq_iff_iff]
  simpa using this

theorem mod_same {a m j k : Nat} (ha : a < m) (hj : j < m) (hk : k < m) (h : (a + j) % m = (a + k) % m) : j = k := by
  have e : ∀ i, i < m → (a + i) % m = if a + i < m then a + i else a + i - m := fun i hi => by
    split
    · rename_i h; exact Nat.mod_eq_of_lt h
    · rename_i h; rw [Nat.mod_eq_sub_mod (by omega), Nat.mod_eq_of_lt (by omega)]
  rw [e j hj, e k hk] at h
  split at h <;> split at h <;> omega

/-- The place is the only one of its kind. -/
theorem place_uniq {T : List Nat} {m a k : Nat} (ha : a < m) (hT : T.length < m) (hn : ¬ (a + k) % m ∈ T) (hj : ∀ j, j < k → (a + j) % m ∈ T) : place T m a = (a + k) % m := by
  obtain ⟨q, hq, h1, h2, h3⟩ := place_spec ha hT
  rcases Nat.lt_trichotomy q k with h | h | h
  · exact (h2 (hj q h)).elim
  · rw [h1, h]
  · exact (hn (h3 k h)).elim

/-- What is taken is stepped over. -/
theorem place_skip {T : List Nat} {m a k : Nat} (ha : a < m) (hT : T.length < m) (hj : ∀ j, j < k → (a + j) % m ∈ T) : place T m a = place T m ((a + k) % m) := by
  obtain ⟨q, hq, h1, h2, h3⟩ := place_spec ha hT
  have hkq : k ≤ q := by
    rcases Nat.lt_or_ge q k with h | h
    · exact (h2 (hj q h)).elim
    · exact h
  have e : ∀ j, ((a + k) % m + j) % m = (a + (k + j)) % m := fun j => by
    rw [Nat.add_mod, Nat.mod_mod, ← Nat.add_mod, Nat.add_assoc]
  rw [h1]
  symm
  rw [place_uniq (k := q - k) (Nat.mod_lt _ (by omega)) hT ?_ ?_, e, show k + (q - k) = q by omega]
  · rw [e, show k + (q - k) = q by omega]; exact h2
  · intro j hj'
    rw [e]
    exact h3 _ (by omega)

/-- Two are placed, in either order: the same is taken. -/
theorem place_two {T : List Nat} {m a b : Nat} (ha : a < m) (hb : b < m) (hT : T.length + 1 < m) :
    ∀ x, x ∈ T ++ [place T m a] ++ [place (T ++ [place T m a]) m b] ↔ x ∈ T ++ [place T m b] ++ [place (T ++ [place T m b]) m a] := by
  obtain ⟨k, hk, h1, h2, h3⟩ := place_spec ha (show T.length < m by omega)
  obtain ⟨q, hq, g1, g2, g3⟩ := place_spec hb (show T.length < m by omega)
  have lA : ∀ x, (T ++ [x]).length < m := fun x => by simp; omega
  by_cases hne : (a + k) % m = (b + q) % m
  · -- the same place: the second one goes on from there
    have eb : place (T ++ [place T m a]) m b = place (T ++ [place T m a]) m ((b + q + 1) % m) := by
      rw [h1]
      exact place_skip (k := q + 1) hb (lA ((a + k) % m)) fun j hj => by
        rcases Nat.lt_or_ge j q with h' | h'
        · exact List.mem_append_left _ (g3 j h')
        · have : j = q := by omega
          subst this
          rw [hne]; simp
    have ea : place (T ++ [place T m b]) m a = place (T ++ [place T m b]) m ((a + k + 1) % m) := by
      rw [g1]
      exact place_skip (k := k + 1) ha (lA ((b + q) % m)) fun j hj => by
        rcases Nat.lt_or_ge j k with h' | h'
        · exact List.mem_append_left _ (h3 j h')
        · have : j = k := by omega
          subst this
          rw [hne]; simp
    have es : (b + q + 1) % m = (a + k + 1) % m := by
      rw [Nat.add_mod (b + q), Nat.add_mod (a + k), hne]
    have ep : place T m a = place T m b := by rw [h1, g1, hne]
    rw [eb, ea, ep, es]
    exact fun x => Iff.rfl
  · have eb : place (T ++ [place T m a]) m b = place T m b := by
      rw [g1]
      refine place_uniq hb (lA _) ?_ fun j hj => List.mem_append_left _ (g3 j hj)
      rw [h1, List.mem_append, List.mem_singleton]
      rintro (h | h)
      · exact g2 h
      · exact hne h.symm
    have ea : place (T ++ [place T m b]) m a = place T m a := by
      rw [h1]
      refine place_uniq ha (lA _) ?_ fun j hj => List.mem_append_left _ (h3 j hj)
      rw [g1, List.mem_append, List.mem_singleton]
      rintro (h | h)
      · exact h2 h
      · exact hne h
    rw [eb, ea]
    intro x
    simp only [List.mem_append, List.mem_singleton]
    constructor <;> rintro ((h | h) | h) <;> simp [h]

/-- All placed, one behind the other. -/
def fill (m : Nat) : List Nat → List Nat → List Nat
  | T, [] => T
  | T, a :: r => fill m (T ++ [place T m a]) r

theorem fill_congr (m : Nat) : ∀ (l T T' : List Nat), (∀ x, x ∈ T ↔ x ∈ T') → ∀ x, x ∈ fill m T l ↔ x ∈ fill m T' l := by
  intro l
  induction l with
  | nil => exact fun T T' h => h
  | cons a r ih =>
    intro T T' h
    refine ih _ _ fun x => ?_
    rw [place_congr h, List.mem_append, List.mem_append, h]

theorem fill_perm (m : Nat) {l l' : List Nat} (hp : l.Perm l') : ∀ T, (∀ a ∈ l, a < m) → T.length + l.length ≤ m → ∀ x, x ∈ fill m T l ↔ x ∈ fill m T l' := by
  induction hp with
  | nil => exact fun _ _ _ _ => Iff.rfl
  | cons a _ ih =>
    intro T ha hl
    exact ih _ (fun b hb => ha b (List.mem_cons_of_mem _ hb)) (by simp at hl ⊢; omega)
  | swap a b r =>
    intro T ha hl
    refine fill_congr m r _ _ ?_
    simp at hl
    exact place_two (ha b (by simp)) (ha a (by simp)) (by omega)
  | trans h1 h2 ih1 ih2 =>
    intro T ha hl x
    rw [ih1 T ha hl x]
    exact ih2 T (fun b hb => ha b (h1.mem_iff.2 hb)) (by rw [← h1.length_eq]; exact hl) x


theorem length_le_of_sub {α : Type} [DecidableEq α] : ∀ (l m : List α), l.Nodup → (∀ x ∈ l, x ∈ m) → l.length ≤ m.length
  | [], _, _, _ => Nat.zero_le _
  | a :: r, m, hn, hs => by
    rw [List.nodup_cons] at hn
    have ha : a ∈ m := hs a (by simp)
    have := length_le_of_sub r (m.erase a) hn.2 fun x hx => by
      have hne : x ≠ a := fun e => hn.1 (e ▸ hx)
      exact (List.mem_erase_of_ne hne).2 (hs x (by simp [hx]))
    rw [List.length_erase_of_mem ha] at this
    have := List.length_pos_of_mem ha
    simp only [List.length_cons]
    omega

theorem fill_snoc (m : Nat) : ∀ (l T : List Nat) (a : Nat), fill m T (l ++ [a]) = fill m T l ++ [place (fill m T l) m a] := by
  intro l
  induction l with
  | nil => intro T a; rfl
  | cons b r ih => intro T a; exact ih _ _

/-- The slots that are taken: those of the texts, placed one behind the other. -/
theorem slotsF_fill (f : ByteArray → Nat) (m : Nat) (l : List ByteArray) : ∀ kn out, slotsF f m l = some (kn, out) → kn.map (·.2) = fill m [] ((kn.map (·.1)).map fun s => f s % m) := by
  have key : ∀ (r l : List ByteArray) kn out kn' out', kn.map (·.2) = fill m [] ((kn.map (·.1)).map fun s => f s % m) → r.foldl (slotStep f m) (some (kn, out)) = some (kn', out') → kn'.map (·.2) = fill m [] ((kn'.map (·.1)).map fun s => f s % m) := by
    intro r
    induction r with
    | nil => intro l kn out kn' out' h e; cases e; exact h
    | cons s r ih =>
      intro l kn out kn' out' h e
      rw [List.foldl_cons] at e
      cases hs : slotStep f m (some (kn, out)) s with
      | none =>
        rw [hs] at e
        exfalso
        clear ih hs h
        induction r with
        | nil => cases e
        | cons t r ih => exact ih e
      | some st =>
        obtain ⟨kn1, out1⟩ := st
        rw [hs] at e
        refine ih l _ _ _ _ ?_ e
        unfold slotStep at hs
        simp only at hs
        split at hs
        · cases hs; exact h
        · split at hs
          · cases hs
          · cases hs
            rw [List.map_append, List.map_append, List.map_append, List.map_cons, List.map_nil, List.map_cons, List.map_nil, List.map_cons, List.map_nil, fill_snoc, ← h]
  intro kn out e
  exact key l [] [] [] kn out rfl e

/-- No slot is left: so many texts are unlike. -/
theorem slotsF_full (f : ByteArray → Nat) (m : Nat) (hm : 0 < m) (l : List ByteArray) (h : slotsF f m l = none) : ∃ D : List ByteArray, D.Nodup ∧ m < D.length ∧ ∀ x ∈ D, x ∈ l := by
  have key : ∀ n, n ≤ l.length → slotsF f m (l.take n) = none → ∃ D : List ByteArray, D.Nodup ∧ m < D.length ∧ ∀ x ∈ D, x ∈ l := by
    intro n
    induction n with
    | zero => intro _ h; cases h
    | succ n ih =>
      intro hn h
      have ht : l.take (n + 1) = l.take n ++ [l[n]] := by rw [List.take_add_one, List.getElem?_eq_getElem (by omega)]; rfl
      rw [ht, slotsF_snoc] at h
      cases hs : slotsF f m (l.take n) with
      | none => exact ih (by omega) hs
      | some st =>
        obtain ⟨kn, out⟩ := st
        rw [hs] at h
        have ok := slots_ok f m hm _ _ _ hs
        unfold slotStep at h
        simp only at h
        split at h
        · cases h
        · rename_i hfd
          split at h
          · rename_i hfull
            refine ⟨kn.map (·.1) ++ [l[n]], ?_, by simp; omega, ?_⟩
            · rw [List.nodup_append]
              refine ⟨ok.nodupK, by simp, ?_⟩
              intro a ha b hb
              simp at hb
              subst hb
              rintro rfl
              obtain ⟨x, hx, hxa⟩ := List.mem_map.1 ha
              exact find_none hfd x hx hxa
            · intro x hx
              rcases List.mem_append.1 hx with hx | hx
              · obtain ⟨y, hy, rfl⟩ := List.mem_map.1 hx
                exact List.mem_of_mem_take (ok.keys y hy)
              · simp at hx; subst hx; exact List.getElem_mem _
          · cases h
  exact key l.length (Nat.le_refl _) (by rw [List.take_length]; exact h)

theorem keys_all {f : ByteArray → Nat} {m : Nat} {l : List ByteArray} {kn : Known} {out : List Nat} (ok : SlotsOk f m l kn out) (x : ByteArray) : x ∈ kn.map (·.1) ↔ x ∈ l := by
  constructor
  · intro h
    obtain ⟨y, hy, rfl⟩ := List.mem_map.1 h
    exact ok.keys y hy
  · intro h
    obtain ⟨k, hk, rfl⟩ := List.getElem_of_mem h
    exact List.mem_map.2 ⟨_, ok.there k hk (by rw [ok.len]; exact hk), rfl⟩

theorem few_of_some {f : ByteArray → Nat} {m : Nat} (hm : 0 < m) {l l' : List ByteArray} (hl : ∀ x, x ∈ l ↔ x ∈ l') {st : Known × List Nat} (h : slotsF f m l = some st) : slotsF f m l' ≠ none := by
  intro h'
  obtain ⟨kn, out⟩ := st
  have ok := slots_ok f m hm _ _ _ h
  obtain ⟨D, hD, hlen, hsub⟩ := slotsF_full f m hm _ h'
  have := length_le_of_sub D (kn.map (·.1)) hD fun x hx => (keys_all ok x).2 ((hl x).2 (hsub x hx))
  have := ok.few
  simp at *
  omega

/-- The texts in another order have, all together, the same slots. -/
theorem slots_same {f : ByteArray → Nat} {m : Nat} (hm : 0 < m) {l l' : List ByteArray} (hl : ∀ x, x ∈ l ↔ x ∈ l') {kn kn' : Known} {out out' : List Nat} (h : slotsF f m l = some (kn, out)) (h' : slotsF f m l' = some (kn', out')) :
    ∀ a, a ∈ out → a ∈ out' := by
  have ok := slots_ok f m hm _ _ _ h
  have ok' := slots_ok f m hm _ _ _ h'
  have hp : (kn.map (·.1)).Perm (kn'.map (·.1)) := (List.perm_ext_iff_of_nodup ok.nodupK ok'.nodupK).2 fun x => by rw [keys_all ok, keys_all ok', hl]
  have hset : ∀ x, x ∈ kn.map (·.2) ↔ x ∈ kn'.map (·.2) := by
    rw [slotsF_fill f m l kn out h, slotsF_fill f m l' kn' out' h']
    refine fill_perm m (hp.map _) [] (fun a ha => ?_) (by have := ok.few; simpa using this)
    obtain ⟨s, _, rfl⟩ := List.mem_map.1 ha
    exact Nat.mod_lt _ hm
  intro a ha
  obtain ⟨i, hi, rfl⟩ := List.getElem_of_mem ha
  have hi' : i < l.length := by rw [← ok.len]; exact hi
  have h1 := (hset out[i]).1 (List.mem_map.2 ⟨_, ok.there i hi' hi, rfl⟩)
  obtain ⟨⟨s, b⟩, hy, hb⟩ := List.mem_map.1 h1
  have hs := ok'.keys _ hy
  obtain ⟨k, hk, hks⟩ := List.getElem_of_mem hs
  have hk' : k < out'.length := by rw [ok'.len]; exact hk
  have h2 := ok'.there k hk hk'
  rw [hks] at h2
  have := mem_inj ok'.nodupK h2 hy
  simp only at hb
  rw [← hb, ← this]
  exact List.getElem_mem _

theorem slots_alike {f : ByteArray → Nat} {m : Nat} {l : List ByteArray} {kn : Known} {out : List Nat} (ok : SlotsOk f m l kn out) {i k : Nat} (hi : i < l.length) (hk : k < l.length) :
    out[i]'(by rw [ok.len]; exact hi) = out[k]'(by rw [ok.len]; exact hk) ↔ l[i] = l[k] := by
  have h1 := ok.there i hi (by rw [ok.len]; exact hi)
  have h2 := ok.there k hk (by rw [ok.len]; exact hk)
  constructor
  · intro h
    rw [h] at h1
    exact mem_inj2 ok.nodupS h1 h2
  · intro h
    rw [h] at h1
    exact mem_inj ok.nodupK h1 h2

end Go.Vc
