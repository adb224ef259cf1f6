/- A value as a row of 128 bits, the highest first. -/
import Derived.Test.YtloieaoglpjffaaEqM
import Derived.Test.YtloieaoglpjffaaPkM
set_option maxRecDepth 10000
namespace Go.Vc
open Go

def layL (N : Nat) : List Bool := (List.range 128).map fun j => N.testBit (127 - j)
/-- As far as it is laid. -/
def layI (N i : Nat) : List Bool := (List.range 128).map fun j => decide ((64 ≤ j + i ∧ j < 64) ∨ 128 ≤ j + i) && N.testBit (127 - j)
/-- As far as it is cut. -/
def cutI (N i : Nat) : List Bool := (List.range 128).map fun j => decide (i ≤ j) && N.testBit (127 - j)

theorem layL_length (N : Nat) : (layL N).length = 128 := by simp [layL]
theorem layI_length (N i : Nat) : (layI N i).length = 128 := by simp [layI]
theorem cutI_length (N i : Nat) : (cutI N i).length = 128 := by simp [cutI]
theorem layL_get (N : Nat) {j : Nat} (hj : j < (layL N).length) : (layL N)[j] = N.testBit (127 - j) := by simp [layL]

theorem layI_zero (N : Nat) : layI N 0 = List.replicate 128 false := by
  apply List.ext_getElem
  · simp [layI]
  · intro j h1 h2
    have : j < 128 := by simpa using h2
    have e : decide ((64 ≤ j + 0 ∧ j < 64) ∨ 128 ≤ j + 0) = false := by apply decide_eq_false; omega
    simp only [layI, List.getElem_map, List.getElem_range, List.getElem_replicate, e, Bool.false_and]

theorem layI_step (N : Nat) {i : Nat} (hi : i < 64) : ((layI N i).set (63 - i) (N.testBit (64 + i))).set (127 - i) (N.testBit i) = layI N (i + 1) := by
  apply List.ext_getElem
  · simp [layI]
  · intro j h1 h2
    have hj : j < 128 := by simpa [layI] using h2
    rw [List.getElem_set, List.getElem_set]
    simp only [layI, List.getElem_map, List.getElem_range]
    by_cases e1 : 127 - i = j
    · rw [if_pos e1, show 127 - j = i by omega, decide_eq_true (by omega : (64 ≤ j + (i + 1) ∧ j < 64) ∨ 128 ≤ j + (i + 1))]; rfl
    · rw [if_neg e1]
      by_cases e2 : 63 - i = j
      · rw [if_pos e2, show 127 - j = 64 + i by omega, decide_eq_true (by omega : (64 ≤ j + (i + 1) ∧ j < 64) ∨ 128 ≤ j + (i + 1))]; rfl
      · rw [if_neg e2]
        congr 1
        apply decide_eq_decide.2
        omega

theorem layI_all (N : Nat) : layI N 64 = layL N := by
  apply List.ext_getElem
  · simp [layI, layL]
  · intro j h1 h2
    have hj : j < 128 := by simpa [layL] using h2
    simp only [layI, layL, List.getElem_map, List.getElem_range]
    rw [decide_eq_true (by omega : (64 ≤ j + 64 ∧ j < 64) ∨ 128 ≤ j + 64)]; rfl

theorem cutI_zero (N : Nat) : cutI N 0 = layL N := by
  apply List.ext_getElem
  · simp [cutI, layL]
  · intro j h1 h2
    simp only [cutI, layL, List.getElem_map, List.getElem_range]
    rw [decide_eq_true (Nat.zero_le j)]; rfl

theorem cutI_step (N : Nat) (i : Nat) : (cutI N i).set i false = cutI N (i + 1) := by
  apply List.ext_getElem
  · simp [cutI]
  · intro j h1 h2
    rw [List.getElem_set]
    simp only [cutI, List.getElem_map, List.getElem_range]
    by_cases e : i = j
    · rw [if_pos e, decide_eq_false (by omega : ¬ i + 1 ≤ j)]; rfl
    · rw [if_neg e]
      congr 1
      apply decide_eq_decide.2; omega

theorem cutI_all (N : Nat) {w : Nat} (hw : w ≤ 128) : cutI N (128 - w) = layL (N % 2 ^ w) := by
  apply List.ext_getElem
  · simp [cutI, layL]
  · intro j h1 h2
    have hj : j < 128 := by simpa [layL] using h2
    simp only [cutI, layL, List.getElem_map, List.getElem_range, Nat.testBit_mod_two_pow]
    congr 1
    apply decide_eq_decide.2; omega

/-- A bit, as the code sees it. -/
theorem bit_hi (N i : Nat) : decide (((N / 2 ^ 64 / 2 ^ i % 2 : Nat) : Int) = 1) = N.testBit (64 + i) := by
  rw [Nat.testBit_eq_decide_div_mod_eq, Nat.div_div_eq_div_mul, ← Nat.pow_add]
  apply decide_eq_decide.2; omega
theorem bit_lo (N : Nat) {i : Nat} (hi : i < 64) : decide (((N % 2 ^ 64 / 2 ^ i % 2 : Nat) : Int) = 1) = N.testBit i := by
  have e : N.testBit i = (N % 2 ^ 64).testBit i := by rw [Nat.testBit_mod_two_pow, decide_eq_true hi, Bool.true_and]
  rw [e, Nat.testBit_eq_decide_div_mod_eq]
  apply decide_eq_decide.2; omega

theorem div_bit (N k : Nat) : N / 2 ^ k = 2 * (N / 2 ^ (k + 1)) + (N.testBit k).toNat := by
  have e : (N.testBit k).toNat = N / 2 ^ k % 2 := by
    rw [Nat.testBit_eq_decide_div_mod_eq]
    rcases Nat.mod_two_eq_zero_or_one (N / 2 ^ k) with h | h <;> simp [h]
  rw [e, Nat.pow_succ, ← Nat.div_div_eq_div_mul]
  omega

theorem and1 {n : Nat} (hn : n < 18446744073709551616) : andI .u64 (n : Int) (1 : Int) = ((n % 2 : Nat) : Int) := by
  have := and64 (BitVec.ofNat 64 n) 1#64
  rw [BitVec.toNat_ofNat, Nat.mod_eq_of_lt hn] at this
  rw [show ((1#64).toNat : Int) = 1 from rfl] at this
  rw [this, BitVec.toNat_and, BitVec.toNat_ofNat, Nat.mod_eq_of_lt hn, show (1#64).toNat = 1 from rfl, Nat.and_one_is_mod]

theorem mod_fits {N w : Nat} : N % 2 ^ w = N ↔ N / 2 ^ w = 0 := by
  constructor
  · intro h
    exact Nat.div_eq_of_lt (h ▸ Nat.mod_lt _ (Nat.two_pow_pos w))
  · intro h
    rcases Nat.div_eq_zero_iff.1 h with h | h
    · have := Nat.two_pow_pos w; omega
    · exact Nat.mod_eq_of_lt h

end Go.Vc
