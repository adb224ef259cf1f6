/- TopLongest: what sorting in place does to a list: no program in sight. -/
import Derived.Test.YtamhpfdcnfgngaaGreatTmQ
set_option maxRecDepth 10000
namespace Go.Vc
open Go

deriving instance Inhabited for Rw
deriving instance Inhabited for Gp

def ga (l : List Gp) (i : Nat) : Gp := l.getD i default
def swapL (l : List Gp) (i j : Nat) : List Gp := (l.set i (ga l j)).set j (ga l i)
theorem ga_set {l : List Gp} {i : Nat} (hi : i < l.length) (x : Gp) (k : Nat) : ga (l.set i x) k = if k = i then x else ga l k := by
  simp only [ga, List.getD_eq_getElem?_getD, List.getElem?_set]
  by_cases h : i = k
  · subst h; simp [hi]
  · rw [if_neg h, if_neg (fun e => h e.symm)]
theorem ga_swap {l : List Gp} {i j : Nat} (hi : i < l.length) (hj : j < l.length) (k : Nat) : ga (swapL l i j) k = if k = j then ga l i else if k = i then ga l j else ga l k := by
  rw [swapL, ga_set (by simpa using hj), ga_set hi]
theorem ga_at {l : List Gp} {i : Nat} (hi : i < l.length) : l[i]? = some (ga l i) := by
  simp [ga, List.getD_eq_getElem?_getD, hi]
theorem ga_eq {l : List Gp} {i : Nat} (hi : i < l.length) : ga l i = l[i] := by simp [ga, hi]
theorem swapL_perm {l : List Gp} {i j : Nat} (hi : i < l.length) (hj : j < l.length) : (swapL l i j).Perm l := by
  have h := Array.swap_perm (xs := l.toArray) (i := i) (j := j) (by simpa using hi) (by simpa using hj)
  have h2 := h.toList
  simpa [Array.swap, swapL, ga_eq hi, ga_eq hj] using h2

abbrev Srt (l : List Gp) (a b : Nat) : Prop := ∀ x y, a ≤ x → x < y → y < b → (ga l y).gr ≤ (ga l x).gr
structure Mv (a b : Nat) (l l' : List Gp) : Prop where
  perm : l'.Perm l
  out : ∀ x, x < a ∨ b ≤ x → ga l' x = ga l x
  inn : ∀ x, a ≤ x → x < b → ∃ y, a ≤ y ∧ y < b ∧ ga l' x = ga l y
theorem Mv.refl (a b : Nat) (l : List Gp) : Mv a b l l := ⟨.refl _, fun _ _ => rfl, fun x h1 h2 => ⟨x, h1, h2, rfl⟩⟩
theorem Mv.len {a b : Nat} {l l' : List Gp} (m : Mv a b l l') : l'.length = l.length := m.perm.length_eq
theorem Mv.trans {a b : Nat} {l l' l'' : List Gp} (m : Mv a b l l') (m' : Mv a b l' l'') : Mv a b l l'' :=
  ⟨m'.perm.trans m.perm, fun x hx => (m'.out x hx).trans (m.out x hx), fun x h1 h2 => by
    obtain ⟨y, h3, h4, h5⟩ := m'.inn x h1 h2
    obtain ⟨z, h6, h7, h8⟩ := m.inn y h3 h4
    exact ⟨z, h6, h7, h5.trans h8⟩⟩
theorem Mv.wide {a b a' b' : Nat} {l l' : List Gp} (m : Mv a b l l') (h1 : a' ≤ a) (h2 : b ≤ b') : Mv a' b' l l' :=
  ⟨m.perm, fun x hx => m.out x (by omega), fun x h3 h4 => by
    by_cases h : x < a ∨ b ≤ x
    · exact ⟨x, h3, h4, m.out x h⟩
    · obtain ⟨y, h5, h6, h7⟩ := m.inn x (by omega) (by omega)
      exact ⟨y, by omega, by omega, h7⟩⟩
theorem Mv.swap {a b i j : Nat} {l : List Gp} (h1 : a ≤ i) (h2 : i < b) (h3 : a ≤ j) (h4 : j < b) (hb : b ≤ l.length) : Mv a b l (swapL l i j) :=
  ⟨swapL_perm (by omega) (by omega), fun x hx => by rw [ga_swap (by omega) (by omega), if_neg (by omega), if_neg (by omega)], fun x h5 h6 => by
    rw [ga_swap (by omega) (by omega)]
    split
    · exact ⟨i, h1, h2, rfl⟩
    · split
      · exact ⟨j, h3, h4, rfl⟩
      · exact ⟨x, h5, h6, rfl⟩⟩

/-! ## Moves told by their places -/

def swpS (a b n x : Nat) : Nat := if a ≤ x ∧ x < a + n then x - a + b else if b ≤ x ∧ x < b + n then x - b + a else x
def rotS (s m e x : Nat) : Nat := if x < s ∨ e ≤ x then x else if x < s + (e - m) then x - s + m else x - (e - m)

theorem rot_left {m i j x : Nat} (h1 : j < i) (h2 : i ≤ m) (h3 : 0 < j) : swpS (m - i) m j (rotS (m - (i - j)) m (m + j) x) = rotS (m - i) m (m + j) x := by
  unfold swpS rotS; repeat' split
  all_goals omega
theorem rot_right {m i j x : Nat} (h1 : i < j) (h2 : i ≤ m) (h3 : 0 < i) : swpS (m - i) (m + j - i) i (rotS (m - i) m (m + (j - i)) x) = rotS (m - i) m (m + j) x := by
  unfold swpS rotS; repeat' split
  all_goals omega
theorem rot_last {m i x : Nat} (h2 : i ≤ m) : swpS (m - i) m i x = rotS (m - i) m (m + i) x := by
  unfold swpS rotS; repeat' split
  all_goals omega

/-! ## Insertion -/

abbrev But (l : List Gp) (a i j : Nat) : Prop := ∀ x y, a ≤ x → x < y → y ≤ i → y ≠ j → (ga l y).gr ≤ (ga l x).gr
theorem but_step {l : List Gp} {a i j : Nat} (h : But l a i j) (h1 : a < j) (h2 : j ≤ i) (h3 : i < l.length) (hlt : (ga l (j - 1)).gr < (ga l j).gr) : But (swapL l j (j - 1)) a i (j - 1) := by
  intro x y hx hxy hy hne
  rw [ga_swap (by omega) (by omega), ga_swap (by omega) (by omega)]
  rw [if_neg hne]
  by_cases hyj : y = j
  · subst hyj
    rw [if_pos rfl]
    by_cases hx1 : x = y - 1
    · rw [if_pos hx1]; omega
    · rw [if_neg hx1, if_neg (by omega)]
      exact h x (y - 1) hx (by omega) (by omega) (by omega)
  · rw [if_neg hyj]
    by_cases hx1 : x = j - 1
    · rw [if_pos hx1]
      exact h j y (by omega) (by omega) hy hyj
    · rw [if_neg hx1]
      by_cases hx2 : x = j
      · rw [if_pos hx2]
        exact h (j - 1) y (by omega) (by omega) hy hyj
      · rw [if_neg hx2]
        exact h x y hx hxy hy hyj
theorem but_end {l : List Gp} {a i j : Nat} (h : But l a i j) (he : j ≤ a ∨ (ga l j).gr ≤ (ga l (j - 1)).gr) : Srt l a (i + 1) := by
  intro x y hx hxy hy
  by_cases hyj : y = j
  · subst hyj
    rcases he with he | he
    · omega
    · by_cases hx1 : x = y - 1
      · rw [hx1]; exact he
      · exact Int.le_trans he (h x (y - 1) hx (by omega) (by omega) (by omega))
  · exact h x y hx hxy (by omega) hyj

/-! ## Merging -/

theorem one_left {l l' : List Gp} {a i b : Nat} (hs : Srt l (a + 1) b) (hi1 : a + 1 ≤ i) (hi2 : i ≤ b) (hlo : ∀ x, a + 1 ≤ x → x < i → (ga l a).gr < (ga l x).gr) (hhi : ∀ x, i ≤ x → x < b → (ga l x).gr ≤ (ga l a).gr)
    (hl : ∀ x, ga l' x = if a ≤ x ∧ x < i - 1 then ga l (x + 1) else if x = i - 1 then ga l a else ga l x) : Srt l' a b := by
  intro x y hx hxy hy
  rw [hl x, hl y]
  by_cases h1 : y < i - 1
  · rw [if_pos ⟨by omega, h1⟩, if_pos ⟨hx, by omega⟩]
    exact hs _ _ (by omega) (by omega) (by omega)
  · rw [if_neg (by omega : ¬ (a ≤ y ∧ y < i - 1))]
    by_cases h2 : y = i - 1
    · rw [if_pos h2, if_pos ⟨hx, by omega⟩]
      exact Int.le_of_lt (hlo _ (by omega) (by omega))
    · rw [if_neg h2]
      by_cases h3 : x < i - 1
      · rw [if_pos ⟨hx, h3⟩]
        exact hs _ _ (by omega) (by omega) hy
      · rw [if_neg (by omega : ¬ (a ≤ x ∧ x < i - 1))]
        by_cases h4 : x = i - 1
        · rw [if_pos h4]; exact hhi y (by omega) hy
        · rw [if_neg h4]; exact hs _ _ (by omega) hxy hy
theorem one_right {l l' : List Gp} {a i m : Nat} (hs : Srt l a m) (hi1 : a ≤ i) (hi2 : i ≤ m) (hlo : ∀ x, a ≤ x → x < i → (ga l m).gr ≤ (ga l x).gr) (hhi : ∀ x, i ≤ x → x < m → (ga l x).gr < (ga l m).gr)
    (hl : ∀ x, ga l' x = if i < x ∧ x ≤ m then ga l (x - 1) else if x = i then ga l m else ga l x) : Srt l' a (m + 1) := by
  intro x y hx hxy hy
  rw [hl x, hl y]
  by_cases h1 : i < y
  · rw [if_pos ⟨h1, by omega⟩]
    by_cases h2 : i < x
    · rw [if_pos ⟨h2, by omega⟩]
      exact hs _ _ (by omega) (by omega) (by omega)
    · rw [if_neg (by omega : ¬ (i < x ∧ x ≤ m))]
      by_cases h3 : x = i
      · rw [if_pos h3]; exact Int.le_of_lt (hhi _ (by omega) (by omega))
      · rw [if_neg h3]
        exact hs _ _ hx (by omega) (by omega)
  · rw [if_neg (by omega : ¬ (i < y ∧ y ≤ m)), if_neg (by omega : ¬ (i < x ∧ x ≤ m)), if_neg (by omega : ¬ x = i)]
    by_cases h3 : y = i
    · rw [if_pos h3]; exact hlo _ hx (by omega)
    · rw [if_neg h3]; exact hs _ _ hx hxy (by omega)

structure Cut (l : List Gp) (a m b mid s : Nat) : Prop where
  lo : a ≤ s
  hi : s ≤ m
  e1 : m ≤ mid + m - s
  e2 : mid + m - s ≤ b
  left : ∀ x y, a ≤ x → x < s → mid + m - s ≤ y → y < b → (ga l y).gr ≤ (ga l x).gr
  right : ∀ x y, m ≤ x → x < mid + m - s → s ≤ y → y < m → (ga l y).gr ≤ (ga l x).gr

theorem cut_rot {l l' : List Gp} {a m b mid s : Nat} (h1 : Srt l a m) (h2 : Srt l m b) (C : Cut l a m b mid s) (hl : ∀ x, ga l' x = ga l (rotS s m (mid + m - s) x)) :
    Srt l' a s ∧ Srt l' s mid ∧ Srt l' mid (mid + m - s) ∧ Srt l' (mid + m - s) b ∧ ∀ x y, a ≤ x → x < mid → mid ≤ y → y < b → (ga l' y).gr ≤ (ga l' x).gr := by
  have := C.lo; have := C.hi; have := C.e1; have := C.e2
  have r1 : ∀ x, x < s → ga l' x = ga l x := fun x hx => by rw [hl, rotS, if_pos (.inl hx)]
  have r2 : ∀ x, s ≤ x → x < mid → ga l' x = ga l (x - s + m) := fun x h3 h4 => by rw [hl, rotS, if_neg (by omega), if_pos (by omega)]
  have r3 : ∀ x, mid ≤ x → x < mid + m - s → ga l' x = ga l (x - (mid - s)) := fun x h3 h4 => by
    rw [hl, rotS, if_neg (by omega), if_neg (by omega)]; congr 1; omega
  have r4 : ∀ x, mid + m - s ≤ x → ga l' x = ga l x := fun x hx => by rw [hl, rotS, if_pos (.inr hx)]
  refine ⟨fun x y hx hxy hy => ?_, fun x y hx hxy hy => ?_, fun x y hx hxy hy => ?_, fun x y hx hxy hy => ?_, fun x y hx hxm hy hyb => ?_⟩
  · rw [r1 x (by omega), r1 y hy]; exact h1 _ _ hx hxy (by omega)
  · rw [r2 x hx (by omega), r2 y (by omega) hy]; exact h2 _ _ (by omega) (by omega) (by omega)
  · rw [r3 x hx (by omega), r3 y (by omega) hy]; exact h1 _ _ (by omega) (by omega) (by omega)
  · rw [r4 x hx, r4 y (by omega)]; exact h2 _ _ (by omega) hxy hy
  · by_cases hxs : x < s
    · rw [r1 x hxs]
      by_cases hye : y < mid + m - s
      · rw [r3 y hy hye]; exact h1 _ _ hx (by omega) (by omega)
      · rw [r4 y (by omega)]; exact C.left x y hx hxs (by omega) hyb
    · rw [r2 x (by omega) hxm]
      by_cases hye : y < mid + m - s
      · rw [r3 y hy hye]; exact C.right _ _ (by omega) (by omega) (by omega) (by omega)
      · rw [r4 y (by omega)]; exact h2 _ _ (by omega) (by omega) hyb

theorem halves {l l1 l2 : List Gp} {a mid b : Nat} (hall : ∀ x y, a ≤ x → x < mid → mid ≤ y → y < b → (ga l y).gr ≤ (ga l x).gr) (m1 : Mv a mid l l1) (s1 : Srt l1 a mid) (m2 : Mv mid b l1 l2) (s2 : Srt l2 mid b) : Srt l2 a b := by
  intro x y hx hxy hy
  by_cases h1 : y < mid
  · rw [m2.out x (.inl (by omega)), m2.out y (.inl h1)]; exact s1 _ _ hx hxy h1
  · by_cases h2 : x < mid
    · obtain ⟨y', h3, h4, h5⟩ := m2.inn y (by omega) hy
      rw [h5, m2.out x (.inl h2), m1.out y' (.inr h3)]
      obtain ⟨x', h6, h7, h8⟩ := m1.inn x hx h2
      rw [h8]
      exact hall _ _ h6 h7 h3 h4
    · exact s2 _ _ (by omega) hxy hy

theorem cut_of {l : List Gp} {a m b mid s0 r0 s : Nat} (h1 : Srt l a m) (h2 : Srt l m b) (ham : a < m) (hmb : m < b) (hmid : mid = (a + b) / 2)
    (h0 : (mid < m ∧ s0 = mid + m - b ∧ r0 = mid) ∨ (m ≤ mid ∧ s0 = a ∧ r0 = m)) (hs1 : s0 ≤ s) (hs2 : s ≤ r0)
    (hT : ∀ c, s0 ≤ c → c < s → (ga l (mid + m - 1 - c)).gr ≤ (ga l c).gr) (hF : ∀ c, s ≤ c → c < r0 → (ga l c).gr < (ga l (mid + m - 1 - c)).gr) : Cut l a m b mid s := by
  refine ⟨by omega, by omega, by omega, by omega, fun x y hx hxs hy hyb => ?_, fun x y hx hxe hy hym => ?_⟩
  · rcases Nat.lt_or_ge s0 s with h3 | h3
    · have := hT (s - 1) (by omega) (by omega)
      have e : mid + m - 1 - (s - 1) = mid + m - s := by omega
      rw [e] at this
      have g1 : (ga l (s - 1)).gr ≤ (ga l x).gr := by
        by_cases hx1 : x = s - 1
        · rw [hx1]; exact Int.le_refl _
        · exact h1 _ _ hx (by omega) (by omega)
      have g2 : (ga l y).gr ≤ (ga l (mid + m - s)).gr := by
        by_cases hy1 : y = mid + m - s
        · rw [hy1]; exact Int.le_refl _
        · exact h2 _ _ (by omega) (by omega) hyb
      omega
    · omega
  · rcases Nat.lt_or_ge s r0 with h3 | h3
    · have := hF s (by omega) h3
      have g1 : (ga l (mid + m - 1 - s)).gr ≤ (ga l x).gr := by
        by_cases hx1 : x = mid + m - 1 - s
        · rw [hx1]; exact Int.le_refl _
        · exact h2 _ _ hx (by omega) (by omega)
      have g2 : (ga l y).gr ≤ (ga l s).gr := by
        by_cases hy1 : y = s
        · rw [hy1]; exact Int.le_refl _
        · exact h1 _ _ (by omega) (by omega) hym
      omega
    · omega

/-! ## Blocks -/

theorem dvd_next {d s a : Nat} (h1 : d ∣ s) (h2 : d ∣ a) (h3 : s < a) : s + d ≤ a := by
  have : d ∣ a - s := (Nat.dvd_sub h2 h1)
  have := Nat.le_of_dvd (by omega) this
  omega
end Go.Vc
