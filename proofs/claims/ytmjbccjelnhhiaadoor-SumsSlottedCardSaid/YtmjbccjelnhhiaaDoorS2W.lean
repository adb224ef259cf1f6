/- Words of four bytes; bits turned within 32. -/
import Derived.Test.YtmjbccjelnhhiaaDoorS2N
set_option maxRecDepth 10000
namespace Go.Vc

abbrev bw (c : UInt8) : W32 := c.toBitVec.setWidth 32
def w4 (c0 c1 c2 c3 : UInt8) : W32 := ((bw c0 ^^^ (bw c1 <<< 8)) ^^^ (bw c2 <<< 16)) ^^^ (bw c3 <<< 24)

/-- Of what has no high bits so many turns are a shift. -/
theorem iter_shl : ∀ (n : Nat) (y : W32), n ≤ 32 → (∀ i, 32 - n ≤ i → y.getLsbD i = false) → iter turnB n (y <<< n) = y := by
  intro n
  induction n with
  | zero => intro y _ _; simp [iter]
  | succ n ih =>
    intro y hn h
    rw [BitVec.shiftLeft_add]
    show iter turnB n (turnB ((y <<< n) <<< 1)) = y
    rw [turn_shl, ih y (by omega) (fun i hi => h i (by omega))]
    rw [BitVec.getLsbD_shiftLeft, h (31 - n) (by omega)]
    simp

theorem bw_high (c : UInt8) {i : Nat} (h : 8 ≤ i) : (bw c).getLsbD i = false := by
  rw [bw, BitVec.getLsbD_setWidth, BitVec.getLsbD_of_ge _ _ h]; simp

theorem take_shift (k : Nat) (hk : k ≤ 24) (s : W32) (c : UInt8) : takeB (iter turnB k s) c = iter turnB (k + 8) (s ^^^ (bw c <<< k)) := by
  rw [iter_add, turn_lin.iter k, iter_shl k (bw c) (by omega) (fun i hi => bw_high c (by omega))]
  rfl

/-- Four bytes are taken at once. -/
theorem takes4 (s : W32) (c0 c1 c2 c3 : UInt8) : takesB s [c0, c1, c2, c3] = iter turnB 32 (s ^^^ w4 c0 c1 c2 c3) := by
  show takeB (takeB (takeB (takeB s c0) c1) c2) c3 = _
  have h0 : takeB s c0 = iter turnB 8 (s ^^^ bw c0) := rfl
  rw [h0, take_shift 8 (by decide), take_shift 16 (by decide), take_shift 24 (by decide)]
  unfold w4
  simp only [BitVec.xor_assoc]

theorem shl_bit (c : UInt8) (k m : Nat) : (bw c <<< k).getLsbD m = (decide (m < 32) && (decide (k ≤ m) && c.toBitVec.getLsbD (m - k))) := by
  rw [BitVec.getLsbD_shiftLeft, bw, BitVec.getLsbD_setWidth]
  by_cases h : m < 32
  · by_cases h2 : m < k
    · simp [h, h2, Nat.not_le.2 h2]
    · have : m - k < 32 := by omega
      simp [h, h2, Nat.le_of_not_lt h2, this]
  · simp [h]

theorem byte_far (c : UInt8) {m : Nat} (h : 8 ≤ m) : c.toBitVec.getLsbD m = false := BitVec.getLsbD_of_ge _ _ h

theorem w4_bit (c0 c1 c2 c3 : UInt8) (m : Nat) (hm : m < 32) : (w4 c0 c1 c2 c3).getLsbD m =
    if m < 8 then c0.toBitVec.getLsbD m else if m < 16 then c1.toBitVec.getLsbD (m - 8) else if m < 24 then c2.toBitVec.getLsbD (m - 16) else c3.toBitVec.getLsbD (m - 24) := by
  have e0 : (bw c0).getLsbD m = (decide (m < 32) && (decide (0 ≤ m) && c0.toBitVec.getLsbD (m - 0))) := by
    have h := shl_bit c0 0 m
    rw [BitVec.shiftLeft_zero] at h
    exact h
  unfold w4
  rw [BitVec.getLsbD_xor, BitVec.getLsbD_xor, BitVec.getLsbD_xor, e0, shl_bit, shl_bit, shl_bit, decide_eq_true hm]
  by_cases h1 : m < 8
  · simp [h1, show ¬ 8 ≤ m by omega, show ¬ 16 ≤ m by omega, show ¬ 24 ≤ m by omega]
  · by_cases h2 : m < 16
    · rw [byte_far c0 (show 8 ≤ m - 0 by omega)]
      simp [h1, h2, show 8 ≤ m by omega, show ¬ 16 ≤ m by omega, show ¬ 24 ≤ m by omega]
    · by_cases h3 : m < 24
      · rw [byte_far c0 (show 8 ≤ m - 0 by omega), byte_far c1 (show 8 ≤ m - 8 by omega)]
        simp [h1, h2, h3, show 8 ≤ m by omega, show 16 ≤ m by omega, show ¬ 24 ≤ m by omega]
      · rw [byte_far c0 (show 8 ≤ m - 0 by omega), byte_far c1 (show 8 ≤ m - 8 by omega), byte_far c2 (show 8 ≤ m - 16 by omega)]
        simp [h1, h2, h3, show 8 ≤ m by omega, show 16 ≤ m by omega, show 24 ≤ m by omega]

/-- A byte of a word. -/
def byteOf (r : W32) (k : Nat) : UInt8 := UInt8.ofBitVec ((r >>> k).setWidth 8)

theorem byteOf_bit (r : W32) (k m : Nat) (hm : m < 8) : (byteOf r k).toBitVec.getLsbD m = r.getLsbD (k + m) := by
  rw [byteOf, UInt8.toBitVec_ofBitVec, BitVec.getLsbD_setWidth, BitVec.getLsbD_ushiftRight, decide_eq_true hm, Bool.true_and]

theorem w4_bytes (r : W32) : w4 (byteOf r 0) (byteOf r 8) (byteOf r 16) (byteOf r 24) = r := by
  apply BitVec.eq_of_getLsbD_eq
  intro m hm
  rw [w4_bit _ _ _ _ m hm]
  split
  · rw [byteOf_bit _ _ _ (by omega)]; congr 1; omega
  · split
    · rw [byteOf_bit _ _ _ (by omega)]; congr 1; omega
    · split
      · rw [byteOf_bit _ _ _ (by omega)]; congr 1; omega
      · rw [byteOf_bit _ _ _ (by omega)]; congr 1; omega

theorem bytes_w4 (c0 c1 c2 c3 : UInt8) : byteOf (w4 c0 c1 c2 c3) 0 = c0 ∧ byteOf (w4 c0 c1 c2 c3) 8 = c1 ∧ byteOf (w4 c0 c1 c2 c3) 16 = c2 ∧ byteOf (w4 c0 c1 c2 c3) 24 = c3 := by
  have key : ∀ (k : Nat) (c : UInt8), k ≤ 24 → (∀ m, m < 8 → (w4 c0 c1 c2 c3).getLsbD (k + m) = c.toBitVec.getLsbD m) → byteOf (w4 c0 c1 c2 c3) k = c := by
    intro k c _ h
    apply UInt8.eq_of_toBitVec_eq
    apply BitVec.eq_of_getLsbD_eq
    intro m hm
    rw [byteOf_bit _ _ _ hm, h m hm]
  refine ⟨key 0 c0 (by decide) fun m hm => ?_, key 8 c1 (by decide) fun m hm => ?_, key 16 c2 (by decide) fun m hm => ?_, key 24 c3 (by decide) fun m hm => ?_⟩
  · rw [w4_bit _ _ _ _ _ (by omega), if_pos (by omega)]; congr 1; omega
  · rw [w4_bit _ _ _ _ _ (by omega), if_neg (by omega), if_pos (by omega)]; congr 1; omega
  · rw [w4_bit _ _ _ _ _ (by omega), if_neg (by omega), if_neg (by omega), if_pos (by omega)]; congr 1; omega
  · rw [w4_bit _ _ _ _ _ (by omega), if_neg (by omega), if_neg (by omega), if_neg (by omega)]; congr 1; omega

/-- The four bytes that lead a sum to another one. -/
def fourW (s want : W32) : W32 := iter undoB 32 (~~~want) ^^^ ~~~s
def fourL (s want : W32) : List UInt8 := [byteOf (fourW s want) 0, byteOf (fourW s want) 8, byteOf (fourW s want) 16, byteOf (fourW s want) 24]

theorem four_leads (s want : W32) : moreB s (fourL s want) = want := by
  unfold moreB fourL
  rw [takes4, w4_bytes]
  have : ~~~s ^^^ fourW s want = iter undoB 32 (~~~want) := by
    unfold fourW
    rw [BitVec.xor_comm (iter undoB 32 (~~~want)), ← BitVec.xor_assoc, BitVec.xor_self, BitVec.zero_xor]
  rw [this, iter_turn_undo, BitVec.not_not]

theorem four_back (s : W32) (c0 c1 c2 c3 : UInt8) : fourL s (moreB s [c0, c1, c2, c3]) = [c0, c1, c2, c3] := by
  have : fourW s (moreB s [c0, c1, c2, c3]) = w4 c0 c1 c2 c3 := by
    unfold fourW moreB
    rw [BitVec.not_not, takes4, iter_undo_turn, BitVec.xor_comm (~~~s), BitVec.xor_assoc, BitVec.xor_self, BitVec.xor_zero]
  unfold fourL
  rw [this]
  obtain ⟨h0, h1, h2, h3⟩ := bytes_w4 c0 c1 c2 c3
  rw [h0, h1, h2, h3]

end Go.Vc
