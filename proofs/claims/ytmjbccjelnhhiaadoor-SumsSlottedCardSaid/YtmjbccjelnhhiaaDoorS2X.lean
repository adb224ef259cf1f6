/- The plain law of bits turned within 32 neighbouring ones. -/
import Derived.Test.YtmjbccjelnhhiaaDoorS2W
set_option maxRecDepth 10000
namespace Go.Vc

/-- The bytes of a number, the low ones first. -/
def bytesN : Nat → Nat → List UInt8
  | _, 0 => []
  | v, n + 1 => UInt8.ofNat v :: bytesN (v / 256) n

theorem bytesN_length (v n : Nat) : (bytesN v n).length = n := by
  induction n generalizing v with
  | zero => rfl
  | succ n ih => simp [bytesN, ih]

theorem bytesN_zero (n : Nat) : bytesN 0 n = List.replicate n 0 := by
  induction n with
  | zero => rfl
  | succ n ih => rw [bytesN, List.replicate_succ, Nat.zero_div, ih]; rfl

theorem iter_inj (n : Nat) {x y : W32} (h : iter turnB n x = iter turnB n y) : x = y := by
  rw [← iter_undo_turn n x, h, iter_undo_turn]

theorem iter_zero (n : Nat) : iter turnB n 0#32 = 0#32 := (turn_lin.iter n).zero

theorem iter_eq_zero {n : Nat} {x : W32} : iter turnB n x = 0#32 ↔ x = 0#32 := by
  constructor
  · intro h
    exact iter_inj n (h.trans (iter_zero n).symm)
  · rintro rfl; exact iter_zero n

theorem takes_zeros_behind (l : List UInt8) (n : Nat) : takesB 0#32 (l ++ List.replicate n 0) = 0#32 ↔ takesB 0#32 l = 0#32 := by
  rw [takesB_append, takesB_zeros, iter_eq_zero]

theorem takes_zeros_ahead (l : List UInt8) (n : Nat) : takesB 0#32 (List.replicate n 0 ++ l) = takesB 0#32 l := by
  rw [takesB_append, takesB_zeros, iter_zero]

theorem w4_zero {c0 c1 c2 c3 : UInt8} (h : w4 c0 c1 c2 c3 = 0#32) : c0 = 0 ∧ c1 = 0 ∧ c2 = 0 ∧ c3 = 0 := by
  obtain ⟨h0, h1, h2, h3⟩ := bytes_w4 c0 c1 c2 c3
  rw [h] at h0 h1 h2 h3
  exact ⟨h0.symm, h1.symm, h2.symm, h3.symm⟩

theorem takes_four_zero {l : List UInt8} (h : l.length = 4) : takesB 0#32 l = 0#32 ↔ l = List.replicate 4 0 := by
  obtain ⟨c0, c1, c2, c3, rfl⟩ : ∃ c0 c1 c2 c3, l = [c0, c1, c2, c3] := by
    match l, h with
    | [a, b, c, d], _ => exact ⟨a, b, c, d, rfl⟩
  rw [takes4, BitVec.zero_xor, iter_eq_zero]
  constructor
  · intro h
    obtain ⟨rfl, rfl, rfl, rfl⟩ := w4_zero h
    rfl
  · intro h
    cases h
    decide

/-- Few bytes lead nothing to nothing. -/
theorem takes_few_zero {l : List UInt8} (h : l.length ≤ 4) : takesB 0#32 l = 0#32 ↔ l = List.replicate l.length 0 := by
  have h4 := takes_four_zero (l := l ++ List.replicate (4 - l.length) 0) (by simp; omega)
  rw [takes_zeros_behind] at h4
  rw [h4]
  constructor
  · intro e
    have := congrArg (List.take l.length) e
    rw [List.take_left, List.take_replicate] at this
    rw [this, List.length_replicate, Nat.min_eq_left h]
  · intro e
    conv => lhs; arg 1; rw [e]
    rw [List.replicate_append_replicate]
    congr 1
    omega

theorem ofNat_bit (v j : Nat) (hj : j < 8) : (UInt8.ofNat v).toBitVec.getLsbD j = v.testBit j := by
  show (BitVec.ofNat 8 v).getLsbD j = _
  rw [BitVec.getLsbD_ofNat, decide_eq_true hj, Bool.true_and]

theorem div_bit (v k j : Nat) : (v / 2 ^ k).testBit j = v.testBit (j + k) := by
  rw [← Nat.shiftRight_eq_div_pow, Nat.testBit_shiftRight, Nat.add_comm]

theorem w4_bytesN (v : Nat) : w4 (UInt8.ofNat v) (UInt8.ofNat (v / 256)) (UInt8.ofNat (v / 256 / 256)) (UInt8.ofNat (v / 256 / 256 / 256)) = BitVec.ofNat 32 v := by
  apply BitVec.eq_of_getLsbD_eq
  intro m hm
  rw [w4_bit _ _ _ _ m hm, BitVec.getLsbD_ofNat, decide_eq_true hm, Bool.true_and]
  have e1 : v / 256 = v / 2 ^ 8 := rfl
  have e2 : v / 256 / 256 = v / 2 ^ 16 := by rw [Nat.div_div_eq_div_mul]
  have e3 : v / 256 / 256 / 256 = v / 2 ^ 24 := by rw [Nat.div_div_eq_div_mul, Nat.div_div_eq_div_mul]
  rw [e3, e2, e1]
  split
  · rw [ofNat_bit _ _ (by omega)]
  · split
    · rw [ofNat_bit _ _ (by omega), div_bit]; congr 1; omega
    · split
      · rw [ofNat_bit _ _ (by omega), div_bit]; congr 1; omega
      · rw [ofNat_bit _ _ (by omega), div_bit]; congr 1; omega

/-- Bits turned within 32, over five bytes. -/
theorem burst_five (mask : W32) (s : Nat) (hs : s < 8) : takesB 0#32 (bytesN (mask.toNat * 2 ^ s) 5) = iter turnB (32 - s + 8) mask := by
  obtain ⟨v, hv⟩ : ∃ v, v = mask.toNat * 2 ^ s := ⟨_, rfl⟩
  have hbit : ∀ j, v.testBit j = (decide (s ≤ j) && mask.getLsbD (j - s)) := fun j => by
    rw [hv, ← Nat.shiftLeft_eq, Nat.testBit_shiftLeft]; rfl
  rw [← hv]
  obtain ⟨c4, hc4⟩ : ∃ c4, c4 = UInt8.ofNat (v / 256 / 256 / 256 / 256) := ⟨_, rfl⟩
  have e4 : v / 256 / 256 / 256 / 256 = v / 2 ^ 32 := by rw [Nat.div_div_eq_div_mul, Nat.div_div_eq_div_mul, Nat.div_div_eq_div_mul]
  have hb : bytesN v 5 = [UInt8.ofNat v, UInt8.ofNat (v / 256), UInt8.ofNat (v / 256 / 256), UInt8.ofNat (v / 256 / 256 / 256)] ++ [c4] := by rw [hc4]; rfl
  rw [hb, takesB_append, takes4, BitVec.zero_xor, w4_bytesN]
  show takeB (iter turnB 32 (BitVec.ofNat 32 v)) c4 = _
  have cbit : ∀ j, j < 8 → c4.toBitVec.getLsbD j = (decide (s ≤ 32 + j) && mask.getLsbD (32 + j - s)) := fun j hj => by
    rw [hc4, e4, ofNat_bit _ _ hj, div_bit, hbit, Nat.add_comm j 32]
  -- what is left of the mask in the first four bytes
  obtain ⟨low, hlow⟩ : ∃ low : W32, low = (BitVec.ofNat 32 v) >>> s := ⟨_, rfl⟩
  have lbit : ∀ m, m < 32 → low.getLsbD m = (decide (m + s < 32) && mask.getLsbD m) := fun m hm => by
    rw [hlow, BitVec.getLsbD_ushiftRight, BitVec.getLsbD_ofNat, hbit, show s + m - s = m by omega, decide_eq_true (show s ≤ s + m by omega), Bool.true_and, Nat.add_comm]
  have hlv : BitVec.ofNat 32 v = low <<< s := by
    apply BitVec.eq_of_getLsbD_eq
    intro m hm
    rw [BitVec.getLsbD_ofNat, BitVec.getLsbD_shiftLeft, hbit, decide_eq_true hm, Bool.true_and, Bool.true_and]
    by_cases h : m < s
    · rw [decide_eq_true h, decide_eq_false (show ¬ s ≤ m by omega)]; rfl
    · rw [decide_eq_false h, decide_eq_true (show s ≤ m by omega), lbit (m - s) (by omega), decide_eq_true (show m - s + s < 32 by omega)]; rfl
  have h1 : iter turnB 32 (BitVec.ofNat 32 v) = iter turnB (32 - s) low := by
    rw [hlv]
    have e32 : ∀ x : W32, iter turnB 32 x = iter turnB (s + (32 - s)) x := fun x => by rw [show s + (32 - s) = 32 by omega]
    rw [e32, iter_add]
    congr 1
    exact iter_shl s low (by omega) fun i hi => by
      by_cases h : i < 32
      · rw [lbit i h, decide_eq_false (show ¬ i + s < 32 by omega)]; rfl
      · exact BitVec.getLsbD_of_ge _ _ (by omega)
  rw [h1]
  have h2 : bw c4 = iter turnB (32 - s) (bw c4 <<< (32 - s)) := (iter_shl (32 - s) (bw c4) (by omega) fun i hi => by
    by_cases h : i < 8
    · rw [bw, BitVec.getLsbD_setWidth, cbit i h, BitVec.getLsbD_of_ge mask _ (by omega)]; simp
    · exact bw_high c4 (by omega)).symm
  show iter turnB 8 (iter turnB (32 - s) low ^^^ bw c4) = _
  rw [h2, ← turn_lin.iter, ← iter_add]
  congr 1
  apply BitVec.eq_of_getLsbD_eq
  intro m hm
  rw [BitVec.getLsbD_xor, lbit m hm, shl_bit, decide_eq_true hm, Bool.true_and]
  by_cases h : m + s < 32
  · rw [decide_eq_true h, decide_eq_false (show ¬ 32 - s ≤ m by omega)]; simp
  · rw [decide_eq_false h, decide_eq_true (show 32 - s ≤ m by omega), cbit _ (by omega), decide_eq_true (show s ≤ 32 + (m - (32 - s)) by omega), show 32 + (m - (32 - s)) - s = m by omega]; simp

theorem bytesN_add (v n k : Nat) : bytesN v (n + k) = bytesN v n ++ bytesN (v / 256 ^ n) k := by
  induction n generalizing v with
  | zero => simp [bytesN]
  | succ n ih => rw [Nat.succ_add, bytesN, ih, bytesN, List.cons_append, Nat.div_div_eq_div_mul, Nat.pow_succ, Nat.mul_comm 256]

/-- Bits turned within 32 neighbouring ones lead nothing to something. -/
theorem burst (mask : W32) (s n : Nat) (hs : s < 8) : takesB 0#32 (bytesN (mask.toNat * 2 ^ s) n) = 0#32 ↔ bytesN (mask.toNat * 2 ^ s) n = List.replicate n 0 := by
  rcases Nat.lt_or_ge n 5 with h | h
  · have := takes_few_zero (l := bytesN (mask.toNat * 2 ^ s) n) (by rw [bytesN_length]; omega)
    rwa [bytesN_length] at this
  · have hv : mask.toNat * 2 ^ s < 256 ^ 5 := by
      have h1 := mask.isLt
      have h2 : 2 ^ s ≤ 2 ^ 7 := Nat.pow_le_pow_right (by decide) (by omega)
      calc mask.toNat * 2 ^ s ≤ mask.toNat * 2 ^ 7 := Nat.mul_le_mul_left _ h2
        _ < 256 ^ 5 := by omega
    obtain ⟨k, rfl⟩ : ∃ k, n = 5 + k := ⟨n - 5, by omega⟩
    rw [bytesN_add, Nat.div_eq_of_lt hv, bytesN_zero, takes_zeros_behind, burst_five mask s hs, iter_eq_zero]
    constructor
    · rintro rfl
      rw [BitVec.toNat_zero, Nat.zero_mul, bytesN_zero, List.replicate_append_replicate]
    · intro h
      have h5 : bytesN (mask.toNat * 2 ^ s) 5 = List.replicate 5 0 := by
        have := congrArg (List.take 5) h
        rw [List.take_left' (bytesN_length _ _), List.take_replicate] at this
        rw [this]
        congr 1
        omega
      have := burst_five mask s hs
      rw [h5, takesB_zeros, iter_zero] at this
      exact iter_eq_zero.1 this.symm

end Go.Vc
