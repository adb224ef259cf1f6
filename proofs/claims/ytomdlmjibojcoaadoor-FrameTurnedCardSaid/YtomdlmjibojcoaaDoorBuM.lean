/- The plain law of bits turned within 32 neighbouring ones, with no program in sight. -/
import Derived.Test.YtomdlmjibojcoaaDoorS2M
set_option maxRecDepth 10000
namespace Go.Vc


/-- The low bits of a word. -/
def lowK (r : W32) : Nat → W32
  | 0 => 0#32
  | k + 1 => lowK r k ^^^ (bif r.getLsbD k then 1#32 <<< k else 0#32)

theorem lowK_bit (r : W32) (k i : Nat) (hi : i < 32) (hk : k ≤ 32) : (lowK r k).getLsbD i = (decide (i < k) && r.getLsbD i) := by
  induction k with
  | zero => simp [lowK]
  | succ k ih =>
    rw [lowK, BitVec.getLsbD_xor, ih (by omega)]
    have h1 : (bif r.getLsbD k then 1#32 <<< k else 0#32).getLsbD i = (r.getLsbD k && decide (i = k)) := by
      cases r.getLsbD k
      · simp
      · rw [cond_true, BitVec.getLsbD_shiftLeft, decide_eq_true hi, Bool.true_and, Bool.true_and]
        by_cases h : i = k
        · subst h; simp
        · rcases Nat.lt_or_ge i k with h2 | h2
          · simp [h2, h]
          · obtain ⟨j, hj⟩ : ∃ j, i - k = j + 1 := ⟨i - k - 1, by omega⟩
            rw [hj, BitVec.getLsbD_one]
            simp [h]
    rw [h1]
    by_cases h : i = k
    · subst h; simp
    · rw [decide_eq_false h, Bool.and_false, Bool.xor_false]
      congr 1
      apply decide_eq_decide.2
      omega

theorem lowK_all (r : W32) : lowK r 32 = r := by
  apply BitVec.eq_of_getLsbD_eq
  intro i hi
  rw [lowK_bit r 32 i hi (Nat.le_refl _), decide_eq_true hi, Bool.true_and]

/-- The table of a map that goes with xor. -/
def tab (g : W32 → W32) : List W32 := (List.range 32).map fun i => g (1#32 <<< i)

theorem tab_at (g : W32 → W32) {k : Nat} (hk : k < 32) : (tab g).getD k 0#32 = g (1#32 <<< k) := by
  simp [tab, List.getD, hk]

theorem Lin.comp {f g : W32 → W32} (hf : Lin f) (hg : Lin g) : Lin (fun x => f (g x)) := fun a b => by
  show f (g (a ^^^ b)) = _
  rw [hg, hf]

theorem iter_two (g : W32 → W32) (n : Nat) (r : W32) : iter (fun x => g (g x)) n r = iter g (2 * n) r := by
  induction n generalizing r with
  | zero => rfl
  | succ n ih => rw [show 2 * (n + 1) = 2 * n + 1 + 1 by omega]; simp only [iter]; exact ih _

theorem iter_mul (f : W32 → W32) (k n : Nat) (r : W32) : iter (iter f k) n r = iter f (k * n) r := by
  induction n generalizing r with
  | zero => rfl
  | succ n ih => show iter (iter f k) n (iter f k r) = _; rw [ih, Nat.mul_succ, Nat.add_comm (k * n) k, iter_add]

/-- What times answers. -/
def xorL : List UInt8 → List UInt8 → List UInt8
  | a :: r, b :: s => (a ^^^ b) :: xorL r s
  | _, _ => []

theorem takeB_lin (a b : W32) (x y : UInt8) : takeB (a ^^^ b) (x ^^^ y) = takeB a x ^^^ takeB b y := by
  unfold takeB
  rw [← turn_lin.iter]
  congr 1
  rw [xor4, UInt8.toBitVec_xor, BitVec.setWidth_xor]

theorem takesB_lin : ∀ (x y : List UInt8) (a b : W32), x.length = y.length → takesB (a ^^^ b) (xorL x y) = takesB a x ^^^ takesB b y := by
  intro x
  induction x with
  | nil =>
    intro y a b h
    obtain rfl : y = [] := List.eq_nil_of_length_eq_zero h.symm
    rfl
  | cons c r ih =>
    intro y a b h
    match y, h with
    | d :: s, h =>
      show takesB (takeB (a ^^^ b) (c ^^^ d)) (xorL r s) = takesB (takeB a c) r ^^^ takesB (takeB b d) s
      rw [takeB_lin]
      exact ih s _ _ (by simpa using h)

theorem takesB_zeros (n : Nat) (r : W32) : takesB r (List.replicate n 0) = iter turnB (8 * n) r := by
  induction n generalizing r with
  | zero => rfl
  | succ n ih =>
    rw [List.replicate_succ, Nat.mul_succ, Nat.add_comm, iter_add]
    show takesB (takeB r 0) (List.replicate n 0) = _
    rw [ih]
    congr 1
    unfold takeB
    congr 1
    simp

theorem xorL_zeros (l : List UInt8) : xorL (List.replicate l.length 0) l = l := by
  induction l with
  | nil => rfl
  | cons c r ih => rw [List.length_cons, List.replicate_succ]; simp only [xorL, ih]; congr 1; simp

theorem takesB_split (r : W32) (l : List UInt8) : takesB r l = iter turnB (8 * l.length) r ^^^ takesB 0#32 l := by
  have := takesB_lin (List.replicate l.length 0) l r 0#32 (by simp)
  rw [xorL_zeros, BitVec.xor_zero, takesB_zeros] at this
  exact this

theorem not_xor (a : W32) : ~~~a = a ^^^ BitVec.allOnes 32 := by
  rw [BitVec.xor_comm, BitVec.allOnes_xor]

theorem xor_cancel (a b c : W32) : (a ^^^ b) ^^^ (c ^^^ b) = a ^^^ c := by
  rw [xor4, BitVec.xor_self, BitVec.xor_zero]



abbrev bw (c : UInt8) : W32 := c.toBitVec.setWidth 32
def w4 (c0 c1 c2 c3 : UInt8) : W32 := ((bw c0 ^^^ (bw c1 <<< 8)) ^^^ (bw c2 <<< 16)) ^^^ (bw c3 <<< 24)

/-- Of what has no high bits so many turns are a shift. -/
theorem iter_shl : ∀ (n : Nat) (y : W32), n ≤ 32 → (∀ i, 32 - n ≤ i → y.getLsbD i = false) → iter turnB n (y <<< n) = y := by
  intro n
  induction n with
  | zero => intro y _ _; simp [iter]
  | succ n ih =>
    intro y hn h
    rw [BitVec.shiftLeft_add]
    show iter turnB n (turnB ((y <<< n) <<< 1)) = y
    rw [turn_shl, ih y (by omega) (fun i hi => h i (by omega))]
    rw [BitVec.getLsbD_shiftLeft, h (31 - n) (by omega)]
    simp

theorem bw_high (c : UInt8) {i : Nat} (h : 8 ≤ i) : (bw c).getLsbD i = false := by
  rw [bw, BitVec.getLsbD_setWidth, BitVec.getLsbD_of_ge _ _ h]; simp

theorem take_shift (k : Nat) (hk : k ≤ 24) (s : W32) (c : UInt8) : takeB (iter turnB k s) c = iter turnB (k + 8) (s ^^^ (bw c <<< k)) := by
  rw [iter_add, turn_lin.iter k, iter_shl k (bw c) (by omega) (fun i hi => bw_high c (by omega))]
  rfl

/-- Four bytes are taken at once. -/
theorem takes4 (s : W32) (c0 c1 c2 c3 : UInt8) : takesB s [c0, c1, c2, c3] = iter turnB 32 (s ^^^ w4 c0 c1 c2 c3) := by
  show takeB (takeB (takeB (takeB s c0) c1) c2) c3 = _
  have h0 : takeB s c0 = iter turnB 8 (s ^^^ bw c0) := rfl
  rw [h0, take_shift 8 (by decide), take_shift 16 (by decide), take_shift 24 (by decide)]
  unfold w4
  simp only [BitVec.xor_assoc]

theorem shl_bit (c : UInt8) (k m : Nat) : (bw c <<< k).getLsbD m = (decide (m < 32) && (decide (k ≤ m) && c.toBitVec.getLsbD (m - k))) := by
  rw [BitVec.getLsbD_shiftLeft, bw, BitVec.getLsbD_setWidth]
  by_cases h : m < 32
  · by_cases h2 : m < k
    · simp [h, h2, Nat.not_le.2 h2]
    · have : m - k < 32 := by omega
      simp [h, h2, Nat.le_of_not_lt h2, this]
  · simp [h]

theorem byte_far (c : UInt8) {m : Nat} (h : 8 ≤ m) : c.toBitVec.getLsbD m = false := BitVec.getLsbD_of_ge _ _ h

theorem w4_bit (c0 c1 c2 c3 : UInt8) (m : Nat) (hm : m < 32) : (w4 c0 c1 c2 c3).getLsbD m =
    if m < 8 then c0.toBitVec.getLsbD m else if m < 16 then c1.toBitVec.getLsbD (m - 8) else if m < 24 then c2.toBitVec.getLsbD (m - 16) else c3.toBitVec.getLsbD (m - 24) := by
  have e0 : (bw c0).getLsbD m = (decide (m < 32) && (decide (0 ≤ m) && c0.toBitVec.getLsbD (m - 0))) := by
    have h := shl_bit c0 0 m
    rw [BitVec.shiftLeft_zero] at h
    exact h
  unfold w4
  rw [BitVec.getLsbD_xor, BitVec.getLsbD_xor, BitVec.getLsbD_xor, e0, shl_bit, shl_bit, shl_bit, decide_eq_true hm]
  by_cases h1 : m < 8
  · simp [h1, show ¬ 8 ≤ m by omega, show ¬ 16 ≤ m by omega, show ¬ 24 ≤ m by omega]
  · by_cases h2 : m < 16
    · rw [byte_far c0 (show 8 ≤ m - 0 by omega)]
      simp [h1, h2, show 8 ≤ m by omega, show ¬ 16 ≤ m by omega, show ¬ 24 ≤ m by omega]
    · by_cases h3 : m < 24
      · rw [byte_far c0 (show 8 ≤ m - 0 by omega), byte_far c1 (show 8 ≤ m - 8 by omega)]
        simp [h1, h2, h3, show 8 ≤ m by omega, show 16 ≤ m by omega, show ¬ 24 ≤ m by omega]
      · rw [byte_far c0 (show 8 ≤ m - 0 by omega), byte_far c1 (show 8 ≤ m - 8 by omega), byte_far c2 (show 8 ≤ m - 16 by omega)]
        simp [h1, h2, h3, show 8 ≤ m by omega, show 16 ≤ m by omega, show 24 ≤ m by omega]

/-- A byte of a word. -/
def byteOf (r : W32) (k : Nat) : UInt8 := UInt8.ofBitVec ((r >>> k).setWidth 8)

theorem byteOf_bit (r : W32) (k m : Nat) (hm : m < 8) : (byteOf r k).toBitVec.getLsbD m = r.getLsbD (k + m) := by
  rw [byteOf, UInt8.toBitVec_ofBitVec, BitVec.getLsbD_setWidth, BitVec.getLsbD_ushiftRight, decide_eq_true hm, Bool.true_and]

theorem w4_bytes (r : W32) : w4 (byteOf r 0) (byteOf r 8) (byteOf r 16) (byteOf r 24) = r := by
  apply BitVec.eq_of_getLsbD_eq
  intro m hm
  rw [w4_bit _ _ _ _ m hm]
  split
  · rw [byteOf_bit _ _ _ (by omega)]; congr 1; omega
  · split
    · rw [byteOf_bit _ _ _ (by omega)]; congr 1; omega
    · split
      · rw [byteOf_bit _ _ _ (by omega)]; congr 1; omega
      · rw [byteOf_bit _ _ _ (by omega)]; congr 1; omega

theorem bytes_w4 (c0 c1 c2 c3 : UInt8) : byteOf (w4 c0 c1 c2 c3) 0 = c0 ∧ byteOf (w4 c0 c1 c2 c3) 8 = c1 ∧ byteOf (w4 c0 c1 c2 c3) 16 = c2 ∧ byteOf (w4 c0 c1 c2 c3) 24 = c3 := by
  have key : ∀ (k : Nat) (c : UInt8), k ≤ 24 → (∀ m, m < 8 → (w4 c0 c1 c2 c3).getLsbD (k + m) = c.toBitVec.getLsbD m) → byteOf (w4 c0 c1 c2 c3) k = c := by
    intro k c _ h
    apply UInt8.eq_of_toBitVec_eq
    apply BitVec.eq_of_getLsbD_eq
    intro m hm
    rw [byteOf_bit _ _ _ hm, h m hm]
  refine ⟨key 0 c0 (by decide) fun m hm => ?_, key 8 c1 (by decide) fun m hm => ?_, key 16 c2 (by decide) fun m hm => ?_, key 24 c3 (by decide) fun m hm => ?_⟩
  · rw [w4_bit _ _ _ _ _ (by omega), if_pos (by omega)]; congr 1; omega
  · rw [w4_bit _ _ _ _ _ (by omega), if_neg (by omega), if_pos (by omega)]; congr 1; omega
  · rw [w4_bit _ _ _ _ _ (by omega), if_neg (by omega), if_neg (by omega), if_pos (by omega)]; congr 1; omega
  · rw [w4_bit _ _ _ _ _ (by omega), if_neg (by omega), if_neg (by omega), if_neg (by omega)]; congr 1; omega

/-- The four bytes that lead a sum to another one. -/
def fourW (s want : W32) : W32 := iter undoB 32 (~~~want) ^^^ ~~~s
def fourL (s want : W32) : List UInt8 := [byteOf (fourW s want) 0, byteOf (fourW s want) 8, byteOf (fourW s want) 16, byteOf (fourW s want) 24]

theorem four_leads (s want : W32) : moreB s (fourL s want) = want := by
  unfold moreB fourL
  rw [takes4, w4_bytes]
  have : ~~~s ^^^ fourW s want = iter undoB 32 (~~~want) := by
    unfold fourW
    rw [BitVec.xor_comm (iter undoB 32 (~~~want)), ← BitVec.xor_assoc, BitVec.xor_self, BitVec.zero_xor]
  rw [this, iter_turn_undo, BitVec.not_not]

theorem four_back (s : W32) (c0 c1 c2 c3 : UInt8) : fourL s (moreB s [c0, c1, c2, c3]) = [c0, c1, c2, c3] := by
  have : fourW s (moreB s [c0, c1, c2, c3]) = w4 c0 c1 c2 c3 := by
    unfold fourW moreB
    rw [BitVec.not_not, takes4, iter_undo_turn, BitVec.xor_comm (~~~s), BitVec.xor_assoc, BitVec.xor_self, BitVec.xor_zero]
  unfold fourL
  rw [this]
  obtain ⟨h0, h1, h2, h3⟩ := bytes_w4 c0 c1 c2 c3
  rw [h0, h1, h2, h3]



/-- The bytes of a number, the low ones first. -/
def bytesN : Nat → Nat → List UInt8
  | _, 0 => []
  | v, n + 1 => UInt8.ofNat v :: bytesN (v / 256) n

theorem bytesN_length (v n : Nat) : (bytesN v n).length = n := by
  induction n generalizing v with
  | zero => rfl
  | succ n ih => simp [bytesN, ih]

theorem bytesN_zero (n : Nat) : bytesN 0 n = List.replicate n 0 := by
  induction n with
  | zero => rfl
  | succ n ih => rw [bytesN, List.replicate_succ, Nat.zero_div, ih]; rfl

theorem iter_inj (n : Nat) {x y : W32} (h : iter turnB n x = iter turnB n y) : x = y := by
  rw [← iter_undo_turn n x, h, iter_undo_turn]

theorem iter_zero (n : Nat) : iter turnB n 0#32 = 0#32 := (turn_lin.iter n).zero

theorem iter_eq_zero {n : Nat} {x : W32} : iter turnB n x = 0#32 ↔ x = 0#32 := by
  constructor
  · intro h
    exact iter_inj n (h.trans (iter_zero n).symm)
  · rintro rfl; exact iter_zero n

theorem takes_zeros_behind (l : List UInt8) (n : Nat) : takesB 0#32 (l ++ List.replicate n 0) = 0#32 ↔ takesB 0#32 l = 0#32 := by
  rw [takesB_append, takesB_zeros, iter_eq_zero]

theorem takes_zeros_ahead (l : List UInt8) (n : Nat) : takesB 0#32 (List.replicate n 0 ++ l) = takesB 0#32 l := by
  rw [takesB_append, takesB_zeros, iter_zero]

theorem w4_zero {c0 c1 c2 c3 : UInt8} (h : w4 c0 c1 c2 c3 = 0#32) : c0 = 0 ∧ c1 = 0 ∧ c2 = 0 ∧ c3 = 0 := by
  obtain ⟨h0, h1, h2, h3⟩ := bytes_w4 c0 c1 c2 c3
  rw [h] at h0 h1 h2 h3
  exact ⟨h0.symm, h1.symm, h2.symm, h3.symm⟩

theorem takes_four_zero {l : List UInt8} (h : l.length = 4) : takesB 0#32 l = 0#32 ↔ l = List.replicate 4 0 := by
  obtain ⟨c0, c1, c2, c3, rfl⟩ : ∃ c0 c1 c2 c3, l = [c0, c1, c2, c3] := by
    match l, h with
    | [a, b, c, d], _ => exact ⟨a, b, c, d, rfl⟩
  rw [takes4, BitVec.zero_xor, iter_eq_zero]
  constructor
  · intro h
    obtain ⟨rfl, rfl, rfl, rfl⟩ := w4_zero h
    rfl
  · intro h
    cases h
    decide

/-- Few bytes lead nothing to nothing. -/
theorem takes_few_zero {l : List UInt8} (h : l.length ≤ 4) : takesB 0#32 l = 0#32 ↔ l = List.replicate l.length 0 := by
  have h4 := takes_four_zero (l := l ++ List.replicate (4 - l.length) 0) (by simp; omega)
  rw [takes_zeros_behind] at h4
  rw [h4]
  constructor
  · intro e
    have := congrArg (List.take l.length) e
    rw [List.take_left, List.take_replicate] at this
    rw [this, List.length_replicate, Nat.min_eq_left h]
  · intro e
    conv => lhs; arg 1; rw [e]
    rw [List.replicate_append_replicate]
    congr 1
    omega

theorem ofNat_bit (v j : Nat) (hj : j < 8) : (UInt8.ofNat v).toBitVec.getLsbD j = v.testBit j := by
  show (BitVec.ofNat 8 v).getLsbD j = _
  rw [BitVec.getLsbD_ofNat, decide_eq_true hj, Bool.true_and]

theorem div_bit (v k j : Nat) : (v / 2 ^ k).testBit j = v.testBit (j + k) := by
  rw [← Nat.shiftRight_eq_div_pow, Nat.testBit_shiftRight, Nat.add_comm]

theorem w4_bytesN (v : Nat) : w4 (UInt8.ofNat v) (UInt8.ofNat (v / 256)) (UInt8.ofNat (v / 256 / 256)) (UInt8.ofNat (v / 256 / 256 / 256)) = BitVec.ofNat 32 v := by
  apply BitVec.eq_of_getLsbD_eq
  intro m hm
  rw [w4_bit _ _ _ _ m hm, BitVec.getLsbD_ofNat, decide_eq_true hm, Bool.true_and]
  have e1 : v / 256 = v / 2 ^ 8 := rfl
  have e2 : v / 256 / 256 = v / 2 ^ 16 := by rw [Nat.div_div_eq_div_mul]
  have e3 : v / 256 / 256 / 256 = v / 2 ^ 24 := by rw [Nat.div_div_eq_div_mul, Nat.div_div_eq_div_mul]
  rw [e3, e2, e1]
  split
  · rw [ofNat_bit _ _ (by omega)]
  · split
    · rw [ofNat_bit _ _ (by omega), div_bit]; congr 1; omega
    · split
      · rw [ofNat_bit _ _ (by omega), div_bit]; congr 1; omega
      · rw [ofNat_bit _ _ (by omega), div_bit]; congr 1; omega

/-- Bits turned within 32, over five bytes. -/
theorem burst_five (mask : W32) (s : Nat) (hs : s < 8) : takesB 0#32 (bytesN (mask.toNat * 2 ^ s) 5) = iter turnB (32 - s + 8) mask := by
  obtain ⟨v, hv⟩ : ∃ v, v = mask.toNat * 2 ^ s := ⟨_, rfl⟩
  have hbit : ∀ j, v.testBit j = (decide (s ≤ j) && mask.getLsbD (j - s)) := fun j => by
    rw [hv, ← Nat.shiftLeft_eq, Nat.testBit_shiftLeft]; rfl
  rw [← hv]
  obtain ⟨c4, hc4⟩ : ∃ c4, c4 = UInt8.ofNat (v / 256 / 256 / 256 / 256) := ⟨_, rfl⟩
  have e4 : v / 256 / 256 / 256 / 256 = v / 2 ^ 32 := by rw [Nat.div_div_eq_div_mul, Nat.div_div_eq_div_mul, Nat.div_div_eq_div_mul]
  have hb : bytesN v 5 = [UInt8.ofNat v, UInt8.ofNat (v / 256), UInt8.ofNat (v / 256 / 256), UInt8.ofNat (v / 256 / 256 / 256)] ++ [c4] := by rw [hc4]; rfl
  rw [hb, takesB_append, takes4, BitVec.zero_xor, w4_bytesN]
  show takeB (iter turnB 32 (BitVec.ofNat 32 v)) c4 = _
  have cbit : ∀ j, j < 8 → c4.toBitVec.getLsbD j = (decide (s ≤ 32 + j) && mask.getLsbD (32 + j - s)) := fun j hj => by
    rw [hc4, e4, ofNat_bit _ _ hj, div_bit, hbit, Nat.add_comm j 32]
  -- what is left of the mask in the first four bytes
  obtain ⟨low, hlow⟩ : ∃ low : W32, low = (BitVec.ofNat 32 v) >>> s := ⟨_, rfl⟩
  have lbit : ∀ m, m < 32 → low.getLsbD m = (decide (m + s < 32) && mask.getLsbD m) := fun m hm => by
    rw [hlow, BitVec.getLsbD_ushiftRight, BitVec.getLsbD_ofNat, hbit, show s + m - s = m by omega, decide_eq_true (show s ≤ s + m by omega), Bool.true_and, Nat.add_comm]
  have hlv : BitVec.ofNat 32 v = low <<< s := by
    apply BitVec.eq_of_getLsbD_eq
    intro m hm
    rw [BitVec.getLsbD_ofNat, BitVec.getLsbD_shiftLeft, hbit, decide_eq_true hm, Bool.true_and, Bool.true_and]
    by_cases h : m < s
    · rw [decide_eq_true h, decide_eq_false (show ¬ s ≤ m by omega)]; rfl
    · rw [decide_eq_false h, decide_eq_true (show s ≤ m by omega), lbit (m - s) (by omega), decide_eq_true (show m - s + s < 32 by omega)]; rfl
  have h1 : iter turnB 32 (BitVec.ofNat 32 v) = iter turnB (32 - s) low := by
    rw [hlv]
    have e32 : ∀ x : W32, iter turnB 32 x = iter turnB (s + (32 - s)) x := fun x => by rw [show s + (32 - s) = 32 by omega]
    rw [e32, iter_add]
    congr 1
    exact iter_shl s low (by omega) fun i hi => by
      by_cases h : i < 32
      · rw [lbit i h, decide_eq_false (show ¬ i + s < 32 by omega)]; rfl
      · exact BitVec.getLsbD_of_ge _ _ (by omega)
  rw [h1]
  have h2 : bw c4 = iter turnB (32 - s) (bw c4 <<< (32 - s)) := (iter_shl (32 - s) (bw c4) (by omega) fun i hi => by
    by_cases h : i < 8
    · rw [bw, BitVec.getLsbD_setWidth, cbit i h, BitVec.getLsbD_of_ge mask _ (by omega)]; simp
    · exact bw_high c4 (by omega)).symm
  show iter turnB 8 (iter turnB (32 - s) low ^^^ bw c4) = _
  rw [h2, ← turn_lin.iter, ← iter_add]
  congr 1
  apply BitVec.eq_of_getLsbD_eq
  intro m hm
  rw [BitVec.getLsbD_xor, lbit m hm, shl_bit, decide_eq_true hm, Bool.true_and]
  by_cases h : m + s < 32
  · rw [decide_eq_true h, decide_eq_false (show ¬ 32 - s ≤ m by omega)]; simp
  · rw [decide_eq_false h, decide_eq_true (show 32 - s ≤ m by omega), cbit _ (by omega), decide_eq_true (show s ≤ 32 + (m - (32 - s)) by omega), show 32 + (m - (32 - s)) - s = m by omega]; simp

theorem bytesN_add (v n k : Nat) : bytesN v (n + k) = bytesN v n ++ bytesN (v / 256 ^ n) k := by
  induction n generalizing v with
  | zero => simp [bytesN]
  | succ n ih => rw [Nat.succ_add, bytesN, ih, bytesN, List.cons_append, Nat.div_div_eq_div_mul, Nat.pow_succ, Nat.mul_comm 256]

/-- Bits turned within 32 neighbouring ones lead nothing to something. -/
theorem burst (mask : W32) (s n : Nat) (hs : s < 8) : takesB 0#32 (bytesN (mask.toNat * 2 ^ s) n) = 0#32 ↔ bytesN (mask.toNat * 2 ^ s) n = List.replicate n 0 := by
  rcases Nat.lt_or_ge n 5 with h | h
  · have := takes_few_zero (l := bytesN (mask.toNat * 2 ^ s) n) (by rw [bytesN_length]; omega)
    rwa [bytesN_length] at this
  · have hv : mask.toNat * 2 ^ s < 256 ^ 5 := by
      have h1 := mask.isLt
      have h2 : 2 ^ s ≤ 2 ^ 7 := Nat.pow_le_pow_right (by decide) (by omega)
      calc mask.toNat * 2 ^ s ≤ mask.toNat * 2 ^ 7 := Nat.mul_le_mul_left _ h2
        _ < 256 ^ 5 := by omega
    obtain ⟨k, rfl⟩ : ∃ k, n = 5 + k := ⟨n - 5, by omega⟩
    rw [bytesN_add, Nat.div_eq_of_lt hv, bytesN_zero, takes_zeros_behind, burst_five mask s hs, iter_eq_zero]
    constructor
    · rintro rfl
      rw [BitVec.toNat_zero, Nat.zero_mul, bytesN_zero, List.replicate_append_replicate]
    · intro h
      have h5 : bytesN (mask.toNat * 2 ^ s) 5 = List.replicate 5 0 := by
        have := congrArg (List.take 5) h
        rw [List.take_left' (bytesN_length _ _), List.take_replicate] at this
        rw [this]
        congr 1
        omega
      have := burst_five mask s hs
      rw [h5, takesB_zeros, iter_zero] at this
      exact iter_eq_zero.1 this.symm


end Go.Vc
