/- Bits added up; a number's bytes, as the document reads them: plain. -/
import Derived.Test.YtloieaoglpjffaaBtM
set_option maxRecDepth 10000
namespace Go.Vc
open Go

/-- What the bits below carry. -/
def carry (A B k : Nat) : Nat := (A % 2 ^ k + B % 2 ^ k) / 2 ^ k

theorem mod_bit (A k : Nat) : A % 2 ^ (k + 1) = 2 ^ k * (A.testBit k).toNat + A % 2 ^ k := by
  have e : (A.testBit k).toNat = A / 2 ^ k % 2 := by
    rw [Nat.testBit_eq_decide_div_mod_eq]
    rcases Nat.mod_two_eq_zero_or_one (A / 2 ^ k) with h | h <;> simp [h]
  rw [e, Nat.pow_succ, Nat.mod_mul]
  omega

theorem carry_zero (A B : Nat) : carry A B 0 = 0 := by simp [carry, Nat.mod_one]
theorem carry_le (A B k : Nat) : carry A B k ≤ 1 := by
  unfold carry
  have h1 := Nat.mod_lt A (Nat.two_pow_pos k)
  have h2 := Nat.mod_lt B (Nat.two_pow_pos k)
  have : (A % 2 ^ k + B % 2 ^ k) / 2 ^ k < 2 := by
    rw [Nat.div_lt_iff_lt_mul (Nat.two_pow_pos k)]; omega
  omega
theorem carry_step (A B k : Nat) : carry A B (k + 1) = (carry A B k + (A.testBit k).toNat + (B.testBit k).toNat) / 2 := by
  unfold carry
  rw [mod_bit, mod_bit]
  have e : 2 ^ k * (A.testBit k).toNat + A % 2 ^ k + (2 ^ k * (B.testBit k).toNat + B % 2 ^ k) = 2 ^ k * ((A.testBit k).toNat + (B.testBit k).toNat) + (A % 2 ^ k + B % 2 ^ k) := by rw [Nat.mul_add]; omega
  rw [e, Nat.pow_succ, ← Nat.div_div_eq_div_mul, Nat.mul_add_div (Nat.two_pow_pos k)]
  congr 1; omega
theorem sum_bit (A B k : Nat) : (A + B).testBit k = decide ((carry A B k + (A.testBit k).toNat + (B.testBit k).toNat) % 2 = 1) := by
  rw [Nat.testBit_eq_decide_div_mod_eq]
  apply decide_eq_decide.2
  have e1 : ∀ X : Nat, (X.testBit k).toNat = X / 2 ^ k % 2 := fun X => by
    rw [Nat.testBit_eq_decide_div_mod_eq]
    rcases Nat.mod_two_eq_zero_or_one (X / 2 ^ k) with h | h <;> simp [h]
  have e2 : (A + B) / 2 ^ k = A / 2 ^ k + B / 2 ^ k + carry A B k := by
    unfold carry
    have h1 := Nat.div_add_mod A (2 ^ k)
    have h2 := Nat.div_add_mod B (2 ^ k)
    have e : A + B = 2 ^ k * (A / 2 ^ k + B / 2 ^ k) + (A % 2 ^ k + B % 2 ^ k) := by rw [Nat.mul_add]; omega
    rw [e, Nat.mul_add_div (Nat.two_pow_pos k)]
  rw [e1 A, e1 B, e2]
  omega

/-- As far as it is added up. -/
def addI (N k : Nat) : List Bool := (List.range 128).map fun j => decide (128 ≤ j + k) && N.testBit (127 - j)
theorem addI_length (N k : Nat) : (addI N k).length = 128 := by simp [addI]
theorem addI_zero (N : Nat) : addI N 0 = List.replicate 128 false := by
  apply List.ext_getElem
  · simp [addI]
  · intro j h1 h2
    have : j < 128 := by simpa using h2
    have e : decide (128 ≤ j + 0) = false := by apply decide_eq_false; omega
    simp only [addI, List.getElem_map, List.getElem_range, List.getElem_replicate, e, Bool.false_and]
theorem addI_step (N : Nat) {k : Nat} (hk : k < 128) : (addI N k).set (127 - k) (N.testBit k) = addI N (k + 1) := by
  apply List.ext_getElem
  · simp [addI]
  · intro j h1 h2
    have hj : j < 128 := by simpa [addI] using h2
    rw [List.getElem_set]
    simp only [addI, List.getElem_map, List.getElem_range]
    by_cases e1 : 127 - k = j
    · rw [if_pos e1, show 127 - j = k by omega, decide_eq_true (by omega : 128 ≤ j + (k + 1))]; rfl
    · rw [if_neg e1]
      congr 1
      apply decide_eq_decide.2
      omega
theorem addI_all (N : Nat) : addI N 128 = layL (N % 2 ^ 128) := by
  apply List.ext_getElem
  · simp [addI, layL]
  · intro j h1 h2
    have hj : j < 128 := by simpa [layL] using h2
    simp only [addI, layL, List.getElem_map, List.getElem_range, Nat.testBit_mod_two_pow]
    congr 1
    apply decide_eq_decide.2; omega

/-- Seven bits of each, the lowest first. -/
def valL : List UInt8 → Nat
  | [] => 0
  | c :: l => c.toNat % 128 + 128 * valL l

theorem valL_append : ∀ (a b : List UInt8), valL (a ++ b) = valL a + 128 ^ a.length * valL b
  | [], b => by simp [valL]
  | c :: a, b => by
    rw [List.cons_append, valL, valL, valL_append a b, List.length_cons, Nat.pow_succ, Nat.mul_add, ← Nat.mul_assoc, Nat.mul_comm 128 (128 ^ a.length)]
    omega

theorem numG_stop (most : Nat) : ∀ (j f i n : Nat) (l : List UInt8), f + i = 10 → (hj : j < l.length) → j < f → (∀ m (hm : m < j), 128 ≤ (l[m]'(by omega)).toNat) → l[j].toNat < 128 →
    numG most f i n l = if (l[j].toNat = 0 ∧ 0 < i + j) ∨ (i + j = 9 ∧ 1 < l[j].toNat) then (30, 0, 0) else if most < (n + 128 ^ i * valL (l.take (j + 1))) % 18446744073709551616 then (2, 0, 0) else (0, (n + 128 ^ i * valL (l.take (j + 1))) % 18446744073709551616, i + j + 1) := by
  intro j
  induction j with
  | zero =>
    intro f i n l hf hj hjf _ hlt
    obtain ⟨f, rfl⟩ : ∃ g, f = g + 1 := ⟨f - 1, by omega⟩
    obtain ⟨c, l, rfl⟩ := List.exists_cons_of_length_pos hj
    rw [numG]
    have hlt : c.toNat < 128 := hlt
    rw [if_neg (by omega)]
    have e : (n + 128 ^ i * valL ((c :: l).take (0 + 1))) = n + c.toNat % 128 * 128 ^ i := by
      simp only [Nat.zero_add, List.take_succ_cons, List.take_zero, valL]
      rw [Nat.mul_zero, Nat.add_zero, Nat.mul_comm]
    rw [e]
    rfl
  | succ j ih =>
    intro f i n l hf hj hjf hge hlt
    obtain ⟨f, rfl⟩ : ∃ g, f = g + 1 := ⟨f - 1, by omega⟩
    obtain ⟨c, l, rfl⟩ := List.exists_cons_of_length_pos (show 0 < l.length by omega)
    rw [numG]
    have h0 : 128 ≤ c.toNat := hge 0 (by omega)
    rw [if_pos h0, ih f (i + 1) _ l (by omega) (by simpa using hj) (by omega) (fun m hm => hge (m + 1) (by omega)) hlt]
    have e : ∀ X, ((n + c.toNat % 128 * 128 ^ i) % 18446744073709551616 + 128 ^ (i + 1) * X) % 18446744073709551616 = (n + 128 ^ i * (c.toNat % 128 + 128 * X)) % 18446744073709551616 := fun X => by
      have : 128 ^ i * (c.toNat % 128 + 128 * X) = c.toNat % 128 * 128 ^ i + 128 ^ (i + 1) * X := by
        rw [Nat.mul_add, Nat.pow_succ, Nat.mul_assoc, Nat.mul_comm (c.toNat % 128)]
      rw [this]
      generalize 128 ^ (i + 1) * X = Y
      generalize c.toNat % 128 * 128 ^ i = Z
      omega
    rw [e, show (c :: l).take (j + 1 + 1) = c :: l.take (j + 1) from rfl, valL]
    have e1 : i + 1 + j = i + (j + 1) := by omega
    rw [e1]
    rfl

theorem numG_none (most : Nat) : ∀ (f i n : Nat) (l : List UInt8), (∀ m (hm : m < l.length), m < f → 128 ≤ l[m].toNat) → numG most f i n l = if l.length < f then (3, 0, 0) else (30, 0, 0) := by
  intro f
  induction f with
  | zero => intro i n l _; rw [numG, if_neg (by omega)]
  | succ f ih =>
    intro i n l hge
    cases l with
    | nil => rw [numG, if_pos (by simp)]
    | cons c l =>
      rw [numG]
      have h0 : 128 ≤ c.toNat := hge 0 (by simp) (by omega)
      rw [if_pos h0, ih (i + 1) _ l fun m hm hf => hge (m + 1) (by simpa using hm) (by omega)]
      simp only [List.length_cons, Nat.add_lt_add_iff_right]

end Go.Vc
