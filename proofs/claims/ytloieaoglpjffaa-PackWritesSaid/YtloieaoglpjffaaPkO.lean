/- What is written is read: plain Lean. -/
import Derived.Test.YtloieaoglpjffaaPkN
set_option maxRecDepth 10000
namespace Go.Vc
open Go

theorem numG_back (most : Nat) : ∀ (f i acc m : Nat) (rest : List UInt8), i + f = 10 → 1 ≤ f → acc < 128 ^ i → (0 < i → 0 < m) → acc + m * 128 ^ i < 18446744073709551616 → acc + m * 128 ^ i ≤ most →
    numG most f i acc (uintG (f - 1) m ++ rest) = (0, acc + m * 128 ^ i, i + (uintG (f - 1) m).length)
  | 0, _, _, _, _, _, h1, _, _, _, _ => by omega
  | f + 1, i, acc, m, rest, hf, _, ha, h0, hlt, hle => by
    have hi9 : i ≤ 9 := by omega
    have hpos : 0 < 128 ^ i := Nat.pow_pos (by decide)
    simp only [Nat.add_sub_cancel]
    by_cases hm : m < 128
    · rw [uintG_small f hm, List.singleton_append, numG]
      have hc : (UInt8.ofNat m).toNat = m := by rw [u8_nat]; omega
      rw [hc, if_neg (by omega), Nat.mod_eq_of_lt hm, Nat.mod_eq_of_lt hlt, if_neg, if_neg (by omega)]
      · rfl
      · rintro (⟨h1, h2⟩ | ⟨h1, h2⟩)
        · have := h0 h2; omega
        · subst h1
          have : 2 * 128 ^ 9 ≤ m * 128 ^ 9 := Nat.mul_le_mul_right _ h2
          omega
    · cases f with
      | zero =>
        have : i = 9 := by omega
        subst this
        have : 128 * 128 ^ 9 ≤ m * 128 ^ 9 := Nat.mul_le_mul_right _ (by omega)
        omega
      | succ f =>
        rw [uintG, if_neg hm, List.cons_append, numG]
        have hc : (UInt8.ofNat (m % 128 + 128)).toNat = m % 128 + 128 := by rw [u8_nat]; omega
        have hp1 := pow128_le (show i + 1 ≤ 9 by omega)
        have hle2 : m % 128 * 128 ^ i ≤ 127 * 128 ^ i := Nat.mul_le_mul_right _ (by omega)
        have hlt2 : acc + m % 128 * 128 ^ i < 128 ^ (i + 1) := by rw [Nat.pow_succ]; omega
        have e1 : acc + m % 128 * 128 ^ i + m / 128 * 128 ^ (i + 1) = acc + m * 128 ^ i := by
          rw [Nat.pow_succ, Nat.add_assoc, Nat.mul_comm (128 ^ i) 128, ← Nat.mul_assoc, ← Nat.add_mul]
          congr 2; omega
        have ih := numG_back most (f + 1) (i + 1) (acc + m % 128 * 128 ^ i) (m / 128) rest (by omega) (by omega) hlt2 (fun _ => by omega) (by rw [e1]; exact hlt) (by rw [e1]; exact hle)
        rw [hc, if_pos (by omega), show (m % 128 + 128) % 128 = m % 128 by omega, Nat.mod_eq_of_lt (show acc + m % 128 * 128 ^ i < 18446744073709551616 by omega)]
        simp only [Nat.add_sub_cancel] at ih
        rw [ih, e1, List.length_cons]
        congr 2; omega

theorem numG_cut (most : Nat) : ∀ (f i acc m j : Nat), i + f = 10 → 1 ≤ f → j < (uintG (f - 1) m).length → (numG most f i acc ((uintG (f - 1) m).take j)).1 = 3
  | 0, _, _, _, _, _, h1, _ => by omega
  | f + 1, i, acc, m, 0, hf, _, _ => by rw [List.take_zero, numG]
  | f + 1, i, acc, m, j + 1, hf, _, hj => by
    simp only [Nat.add_sub_cancel] at hj ⊢
    by_cases hm : m < 128
    · rw [uintG_small f hm] at hj; simp at hj
    · cases f with
      | zero => simp [uintG] at hj
      | succ f =>
        rw [uintG, if_neg hm] at hj ⊢
        rw [List.take_succ_cons, numG]
        have hc : (UInt8.ofNat (m % 128 + 128)).toNat = m % 128 + 128 := by rw [u8_nat]; omega
        rw [hc, if_pos (by omega)]
        exact numG_cut most (f + 1) (i + 1) _ (m / 128) j (by omega) (by omega) (by simpa using hj)

theorem uint_back {n : Nat} (hn : n < 18446744073709551616) (most : Nat) (hm : n ≤ most) (rest : List UInt8) : numG most 10 0 0 (uintL n ++ rest) = (0, n, (uintL n).length) := by
  have := numG_back most 10 0 0 n rest rfl (by decide) (by decide) (fun h => by cases h) (by omega) (by omega)
  simpa [uintL] using this

/-- A thing that is written and read: its kind, a number, how many bytes, a text, a value's low part. -/
structure Th where
  kind : Int
  n : Nat
  k : Int
  s : List UInt8
  a : Nat

structure Th.Ok (i : Th) : Prop where
  n : i.n < 18446744073709551616
  s : i.s.length < 18446744073709551616
  a : i.a < 18446744073709551616

def Th.bad (i : Th) : Prop := i.k < 1 ∨ 8 < i.k ∨ (i.k < 8 ∧ i.n / 2 ^ (8 * i.k.toNat) ≠ 0)
instance (i : Th) : Decidable i.bad := by unfold Th.bad; infer_instance

def putL (i : Th) : List UInt8 :=
  if i.kind = 1 then uintL i.n else if i.kind = 2 then (if i.bad then [] else beL i.k.toNat i.n) else if i.kind = 3 then uintL i.s.length ++ i.s else if i.kind = 5 then i.s else if i.kind = 4 then beL 8 i.a else []
def gotF (i : Th) (r : Rd) : Bool × Rd :=
  if i.kind = 1 then (decide ((r.uint i.n).1 = i.n), (r.uint i.n).2) else if i.kind = 2 then (if i.bad then (true, r) else (decide ((r.fixed i.k).1 = i.n), (r.fixed i.k).2))
  else if i.kind = 3 then (decide ((r.text i.s.length).1 = i.s), (r.text i.s.length).2) else if i.kind = 5 then (decide ((r.raw i.s.length).1 = i.s), (r.raw i.s.length).2)
  else if i.kind = 4 then (decide ((r.bits 64).1 = i.a), (r.bits 64).2) else (true, r)

theorem take_app {a b : List UInt8} : (a ++ b).take a.length = a := List.take_left
theorem drop_app {a b : List UInt8} : (a ++ b).drop a.length = b := List.drop_left

theorem fits64 {N : Nat} : fitsN N 64 = decide (N / 2 ^ 64 = 0) := by
  unfold fitsN
  rw [isW_iff.2 ⟨by decide, by decide⟩, Bool.true_and]
  rfl

/-- It is read as it was. -/
theorem got_back {i : Th} (ok : i.Ok) {r : Rd} (h0 : r.e = 0) {rest : List UInt8} (hl : r.left = putL i ++ rest) : gotF i r = (true, r.to (putL i).length) := by
  have z0 : ¬ (r.e ≠ 0) := by omega
  unfold putL at hl
  unfold gotF putL
  split
  · rename_i h1
    rw [if_pos h1] at hl
    have e := uint_back ok.n i.n (Nat.le_refl _) rest
    rw [← hl] at e
    have eu : r.uint i.n = (i.n, r.to (uintL i.n).length) := by
      unfold Rd.uint
      rw [if_neg z0, e, if_neg (by simp)]
    rw [eu]; simp
  rename_i h1
  rw [if_neg h1] at hl
  split
  · rename_i h2
    rw [if_pos h2] at hl
    by_cases hb : i.bad
    · rw [if_pos hb, if_pos hb]; rfl
    · rw [if_neg hb] at hl ⊢
      rw [if_neg hb]
      have hb' : ¬ (i.k < 1) ∧ ¬ (8 < i.k) ∧ (i.k < 8 → i.n / 2 ^ (8 * i.k.toNat) = 0) := by
        unfold Th.bad at hb
        refine ⟨fun h => hb (.inl h), fun h => hb (.inr (.inl h)), fun h => ?_⟩
        exact Classical.byContradiction fun hn => hb (.inr (.inr ⟨h, hn⟩))
      obtain ⟨b1, b2, b3⟩ := hb'
      obtain ⟨m, hm⟩ := Int.eq_ofNat_of_zero_le (show 0 ≤ i.k by omega)
      rw [hm] at b1 b2 b3 hl ⊢
      simp only [Int.toNat_natCast] at b3 hl ⊢
      have hlen : (beL m i.n).length = m := beL_length m i.n
      have et : r.left.take m = beL m i.n := by
        rw [hl]
        have := take_app (a := beL m i.n) (b := rest)
        rwa [hlen] at this
      have em : i.n % 256 ^ m = i.n := by
        refine Nat.mod_eq_of_lt ?_
        by_cases h8 : m < 8
        · have := b3 (by omega)
          rw [Nat.div_eq_zero_iff] at this
          rcases this with hh | hh
          · have := Nat.two_pow_pos (8 * m); omega
          · rw [show (256 : Nat) ^ m = 2 ^ (8 * m) by rw [show (256 : Nat) = 2 ^ 8 from rfl, ← Nat.pow_mul]]; exact hh
        · have : m = 8 := by omega
          subst this
          exact ok.n
      have ef : r.fixed (m : Int) = (i.n, r.to m) := by
        unfold Rd.fixed
        rw [if_neg z0, if_neg (by omega), if_neg (by rw [hl, List.length_append, hlen]; omega), Int.toNat_natCast, et, numL_beL, em]
      rw [ef, hlen]; simp
  rename_i h2
  rw [if_neg h2] at hl
  split
  · rename_i h3
    rw [if_pos h3, List.append_assoc] at hl
    have e := uint_back ok.s i.s.length (Nat.le_refl _) (i.s ++ rest)
    rw [← hl] at e
    have et : r.text i.s.length = (i.s, r.to ((uintL i.s.length).length + i.s.length)) := by
      unfold Rd.text
      rw [Int.toNat_natCast, if_neg z0, if_neg (by omega), e, if_neg (by simp), if_neg (by rw [hl, List.length_append, List.length_append]; simp only; omega), hl, drop_app, take_app]
    rw [et, List.length_append]; simp
  rename_i h3
  rw [if_neg h3] at hl
  split
  · rename_i h5
    rw [if_pos h5] at hl
    have er : r.raw i.s.length = (i.s, r.to i.s.length) := by
      unfold Rd.raw
      rw [if_neg z0, if_neg (by omega), if_neg (by rw [hl, List.length_append]; omega), Int.toNat_natCast, hl, take_app]
    rw [er]; simp
  rename_i h5
  rw [if_neg h5] at hl
  split
  · rename_i h4
    rw [if_pos h4] at hl
    have hlen : (beL 8 i.a).length = 8 := beL_length 8 i.a
    have et : r.left.take 8 = beL 8 i.a := by
      rw [hl]
      have := take_app (a := beL 8 i.a) (b := rest)
      rwa [hlen] at this
    have e8 : ((64 : Int).toNat + 7) / 8 = 8 := by decide
    have eN : numL (beL 8 i.a) = i.a := by rw [numL_beL]; exact Nat.mod_eq_of_lt ok.a
    have ef : fromF (beL 8 i.a) 64 = (i.a, 0) := by
      unfold fromF
      have hf : fitsN i.a 64 = true := by
        rw [fits64]; exact decide_eq_true (Nat.div_eq_of_lt (by have := ok.a; omega))
      rw [if_neg (by rw [isW_iff.2 ⟨by decide, by decide⟩]; simp), e8, if_neg (by rw [hlen]; simp), eN, hf, if_neg (by simp)]
    have eb : r.bits 64 = (i.a, r.to 8) := by
      unfold Rd.bits
      rw [if_neg z0, if_neg (by rw [isW_iff.2 ⟨by decide, by decide⟩]; simp), e8, if_neg (by rw [hl, List.length_append, hlen]; omega), et, ef, if_neg (by simp)]
    rw [eb, hlen]; simp
  · rename_i h4
    rfl

/-- Cut off, it is not. -/
theorem got_cut {i : Th} (ok : i.Ok) {r : Rd} (h0 : r.e = 0) {j : Nat} (hj : j < (putL i).length) (hl : r.left = (putL i).take j) : (gotF i r).2 = r.bad 3 := by
  have z0 : ¬ (r.e ≠ 0) := by omega
  unfold putL at hl hj
  unfold gotF
  split
  · rename_i h1
    rw [if_pos h1] at hl hj
    have e := numG_cut i.n 10 0 0 i.n j rfl (by decide) hj
    unfold uintL at hl
    unfold Rd.uint
    rw [if_neg z0, if_pos (by rw [hl, e]; decide)]
    show r.bad _ = _
    rw [hl, e]
  rename_i h1
  rw [if_neg h1] at hl hj
  split
  · rename_i h2
    rw [if_pos h2] at hl hj
    by_cases hb : i.bad
    · rw [if_pos hb] at hj; exact absurd hj (Nat.not_lt_zero _)
    · rw [if_neg hb] at hl hj ⊢
      have hb' : ¬ (i.k < 1) ∧ ¬ (8 < i.k) := by
        unfold Th.bad at hb
        exact ⟨fun h => hb (.inl h), fun h => hb (.inr (.inl h))⟩
      rw [beL_length] at hj
      have hll : r.left.length = j := by rw [hl, List.length_take, beL_length]; omega
      unfold Rd.fixed
      rw [if_neg z0, if_neg (by omega), if_pos (by rw [hll]; omega)]
  rename_i h2
  rw [if_neg h2] at hl hj
  split
  · rename_i h3
    rw [if_pos h3] at hl hj
    unfold Rd.text
    simp only [Int.toNat_natCast]
    rw [if_neg z0, if_neg (by omega)]
    rcases Nat.lt_or_ge j (uintL i.s.length).length with hlt | hge
    · rw [List.take_append_of_le_length (by omega)] at hl
      have e := numG_cut i.s.length 10 0 0 i.s.length j rfl (by decide) hlt
      unfold uintL at hl
      rw [if_pos (by rw [hl, e]; decide)]
      show r.bad _ = _
      rw [hl, e]
    · rw [List.take_append, List.take_of_length_le hge] at hl
      have e := uint_back ok.s i.s.length (Nat.le_refl _) (i.s.take (j - (uintL i.s.length).length))
      rw [← hl] at e
      rw [e, if_neg (by simp), if_pos]
      rw [hl, List.length_append, List.length_take]
      rw [List.length_append] at hj
      simp only
      omega
  rename_i h3
  rw [if_neg h3] at hl hj
  split
  · rename_i h5
    rw [if_pos h5] at hl hj
    unfold Rd.raw
    rw [if_neg z0, if_neg (by omega), if_pos (by rw [hl, List.length_take]; omega)]
  rename_i h5
  rw [if_neg h5] at hl hj
  split
  · rename_i h4
    rw [if_pos h4] at hl hj
    rw [beL_length] at hj
    unfold Rd.bits
    have e8 : ((64 : Int).toNat + 7) / 8 = 8 := by decide
    rw [if_neg z0, if_neg (by rw [isW_iff.2 ⟨by decide, by decide⟩]; simp), e8, if_pos (by rw [hl, List.length_take, beL_length]; omega)]
  · rename_i h4
    rw [if_neg h4] at hj
    exact absurd hj (Nat.not_lt_zero _)

/-- Behind an error nothing is read. -/
theorem got_dead (i : Th) {r : Rd} (h : r.e ≠ 0) : (gotF i r).2 = r := by
  unfold gotF Rd.uint Rd.fixed Rd.text Rd.raw Rd.bits
  simp only [if_pos h]
  repeat' split
  all_goals rfl

def putAll (l : List Th) : List UInt8 := (l.map putL).flatten

theorem putAll_cons (i : Th) (l : List Th) : putAll (i :: l) = putL i ++ putAll l := rfl

/-- All but the last byte: it ends too early. -/
theorem less_law : ∀ (l : List Th) (r : Rd), (∀ i ∈ l, i.Ok) → r.e = 0 → putAll l ≠ [] → r.left = (putAll l).take ((putAll l).length - 1) → (l.foldl (fun r i => (gotF i r).2) r).e = 3
  | [], r, _, _, h, _ => by exact absurd rfl h
  | i :: l, r, hok, h0, hne, hl => by
    rw [List.foldl_cons]
    rw [putAll_cons] at hl hne
    by_cases hz : putAll l = []
    · rw [hz, List.append_nil] at hl hne
      have hp : 0 < (putL i).length := List.length_pos_iff.2 hne
      rw [got_cut (hok i (by simp)) h0 (j := (putL i).length - 1) (by omega) hl]
      have dead : ∀ (l : List Th) (r : Rd), r.e = 3 → (l.foldl (fun r i => (gotF i r).2) r).e = 3 := by
        intro l
        induction l with
        | nil => exact fun r h => h
        | cons j l ih => intro r h; rw [List.foldl_cons, got_dead j (by rw [h]; decide)]; exact ih r h
      exact dead l _ rfl
    · have hp : 0 < (putAll l).length := List.length_pos_iff.2 hz
      have e1 : (putL i ++ putAll l).take ((putL i ++ putAll l).length - 1) = putL i ++ (putAll l).take ((putAll l).length - 1) := by
        rw [List.length_append, List.take_append, List.take_of_length_le (by omega), show (putL i).length + (putAll l).length - 1 - (putL i).length = (putAll l).length - 1 by omega]
      rw [e1] at hl
      rw [got_back (hok i (by simp)) h0 hl]
      refine less_law l _ (fun j hj => hok j (by simp [hj])) h0 hz ?_
      have : (r.to (putL i).length).left = r.left.drop (putL i).length := by unfold Rd.left Rd.to; rw [List.drop_drop]
      show (r.to (putL i).length).left = _
      rw [this, hl, drop_app]

end Go.Vc
