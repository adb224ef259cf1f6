/- Contracts of the sums' functions, the simple ones. -/
import Derived.Test.YtmjbccjelnhhiaaDoorS2V
import Derived.Test.YtmjbccjelnhhiaaDoorS2M
import Derived.Test.YtmjbccjelnhhiaaDoorVcG
set_option maxRecDepth 10000
namespace Go.Vc
open Go Go.Proofs

/-- It returns this, and the heap is as it was. -/
def Ret (v : Value) (h : Hp) : Ending → Hp → Prop := fun e h' => e = .returned v ∧ h' = h
/-- It returns this, and what was there is there. -/
def RetX (v : Value) (h : Hp) : Ending → Hp → Prop := fun e h' => e = .returned v ∧ Ext h h'

abbrev vW (x : W32) : Value := .int .u32 (x.toNat : Int)

theorem incI {i : Nat} (h : i < 9223372036854775807) : IntKind.i64.wrap ((i : Int) + 1) = ((i + 1 : Nat) : Int) := wrapI64 (by omega) (by omega)

theorem odd_bit (r : W32) : r.getLsbD 0 = decide (r.toNat % 2 = 1) := by
  rw [BitVec.getLsbD, Nat.testBit_zero]

theorem top_bit (r : W32) : r.getLsbD 31 = decide (2147483648 ≤ r.toNat) := by
  have := r.isLt
  rw [BitVec.getLsbD, Nat.testBit_eq_decide_div_mod_eq]
  congr 1
  apply propext
  omega

/-- turnoutref02.turn -/
theorem turn_43 (r : W32) (h : Hp) : CallsH Tryd.prog 43 #[vW r] h (Ret (vW (turnB r)) h) := by
  refine V43 _ h _ ⟨by decide, _, mod32 r 2#32, fun hc => ?_, fun hc => ?_⟩
  · refine ⟨by decide, _, div32 r 2#32, _, xor32 (r / 2#32) 3988292384#32, ?_, rfl⟩
    have hb : r.getLsbD 0 = true := by rw [odd_bit]; simp [BitVec.toNat_umod] at hc ⊢; omega
    rw [turnB, hb, cond_true, show r / 2#32 = r >>> 1 by apply BitVec.eq_of_toNat_eq; rw [BitVec.toNat_udiv, BitVec.toNat_ushiftRight, Nat.shiftRight_eq_div_pow]; rfl]
    rfl
  · refine ⟨by decide, _, div32 r 2#32, ?_, rfl⟩
    have hb : r.getLsbD 0 = false := by rw [odd_bit]; simp [BitVec.toNat_umod] at hc ⊢; omega
    rw [turnB, hb, cond_false, BitVec.xor_zero, show r / 2#32 = r >>> 1 by apply BitVec.eq_of_toNat_eq; rw [BitVec.toNat_udiv, BitVec.toNat_ushiftRight, Nat.shiftRight_eq_div_pow]; rfl]

/-- sums.ahead -/
theorem ahead_41 (r : W32) (h : Hp) : CallsH Tryd.prog 41 #[vW r] h (Ret (vW (turnB r)) h) := by
  refine V41 _ h _ ⟨_, and32 r 1#32, fun hc => ?_, fun hc => ?_⟩
  · refine ⟨by decide, _, shr32 r 1 (by decide), _, xor32 (r >>> 1) 3988292384#32, ?_, rfl⟩
    have hb : r.getLsbD 0 = true := by rw [odd_bit]; simp [BitVec.toNat_and, Nat.and_one_is_mod] at hc ⊢; omega
    rw [turnB, hb]
    rfl
  · refine ⟨by decide, _, shr32 r 1 (by decide), ?_, rfl⟩
    have hb : r.getLsbD 0 = false := by rw [odd_bit]; simp [BitVec.toNat_and, Nat.and_one_is_mod] at hc ⊢; omega
    rw [turnB, hb, cond_false, BitVec.xor_zero]

/-- sums.back -/
theorem back_39 (r : W32) (h : Hp) : CallsH Tryd.prog 39 #[vW r] h (Ret (vW (undoB r)) h) := by
  refine V39 _ h _ ⟨by decide, _, shr32 r 31 (by decide), fun hc => ?_, fun hc => ?_⟩
  · refine ⟨_, xor32 r 3988292384#32, by decide, _, shl32 _ 1 (by decide), _, or32 _ 1#32, ?_, rfl⟩
    have hb : r.getLsbD 31 = true := by
      have := r.isLt
      rw [top_bit]; simp [Nat.shiftRight_eq_div_pow] at hc ⊢; omega
    rw [undoB, hb]
    rfl
  · refine ⟨by decide, _, shl32 r 1 (by decide), ?_, rfl⟩
    have hb : r.getLsbD 31 = false := by
      have := r.isLt
      rw [top_bit]; simp [Nat.shiftRight_eq_div_pow] at hc ⊢; omega
    rw [undoB, hb, cond_false]

theorem undoB_two (r : W32) : undoB r = if 2147483648 ≤ r.toNat then 2#32 * (r ^^^ poly) + 1#32 else 2#32 * r := by
  unfold undoB
  rw [top_bit]
  have h2 : ∀ x : W32, x <<< 1 = 2#32 * x := fun x => by rw [BitVec.shiftLeft_eq_mul_twoPow, BitVec.mul_comm]; rfl
  split
  · rename_i h
    rw [decide_eq_true h, cond_true, ← h2]
    rw [BitVec.add_eq_or_of_and_eq_zero]
    apply BitVec.eq_of_getLsbD_eq
    intro i hi
    rw [BitVec.getLsbD_and, BitVec.getLsbD_shiftLeft]
    cases i with
    | zero => simp
    | succ i => simp
  · rename_i h
    rw [decide_eq_false h, cond_false, ← h2]

/-- turnoutref02.undone -/
theorem undone_46 (r : W32) (h : Hp) : CallsH Tryd.prog 46 #[vW r] h (Ret (vW (undoB r)) h) := by
  refine V46 _ h _ ⟨fun hc => ?_, fun hc => ?_⟩
  · refine ⟨_, xor32 r 3988292384#32, _, mul32 2#32 _, _, add32 _ 1#32, ?_, rfl⟩
    rw [undoB_two, if_pos (by simp at hc; omega)]
    rfl
  · refine ⟨_, mul32 2#32 r, ?_, rfl⟩
    rw [undoB_two, if_neg (by simp at hc; omega)]

/-- turnoutref02.over -/
theorem over_35 (r : W32) (h : Hp) : CallsH Tryd.prog 35 #[vW r] h (Ret (vW (~~~r)) h) := by
  refine V35 _ h _ ⟨_, ?_, rfl, rfl⟩
  have := r.isLt
  rw [wrapU32, BitVec.toNat_not]; omega

theorem byteAt {b : ByteArray} {i : Nat} (h : i < b.size) : b[i]? = some b[i] := by
  rw [getElem?_pos b i h]

theorem take_byte {b : ByteArray} {i : Nat} (h : i < b.size) : b.data.toList.take (i + 1) = b.data.toList.take i ++ [b[i]] := by
  rw [List.take_add_one]
  congr 1
  have : b.data.toList[i]? = some b[i] := by
    have hs : i < b.data.size := h
    rw [Array.getElem?_toList, Array.getElem?_eq_getElem hs]
    rfl
  rw [this]; rfl

theorem take_size (b : ByteArray) : b.data.toList.take b.size = b.data.toList := List.take_of_length_le (by simp)

/-- The bytes of a text. -/
abbrev bl (b : ByteArray) : List UInt8 := b.data.toList

/-- turnoutref02.takes -/
theorem takes_34 (r : W32) (b : ByteArray) (hb : b.size ≤ maxLen) (h : Hp) : CallsH Tryd.prog 34 #[vW r, .string b] h (Ret (vW (takesB r (bl b))) h) := by
  have hb' : b.size ≤ 9223372036854775807 := hb
  refine V34 _ b h _ ⟨fun l hp => hp = h ∧ ∃ i : Nat, i ≤ b.size ∧ l = [vW (takesB r ((bl b).take i)), .int .i64 i], fun l _ => (b.size - numAt l 1).toNat, ⟨rfl, 0, Nat.zero_le _, rfl⟩, ?_⟩
  rintro r1 x hp ⟨rfl, i, hi, hl⟩
  cases hl
  refine ⟨fun hc => ?_, fun hc => ?_⟩
  · have hc : i < b.size := by simpa using hc
    refine ⟨by omega, _, byteAt hc, _, byte32 _, _, xor32 _ _, ?_⟩
    refine ⟨fun l hp' => hp' = hp ∧ ∃ k : Nat, k ≤ 8 ∧ l = [vW (iter turnB k (takesB r ((bl b).take i) ^^^ (BitVec.setWidth 32 b[i].toBitVec))), .int .i64 k], fun l _ => (8 - numAt l 1).toNat, ⟨rfl, 0, by decide, rfl⟩, ?_⟩
    rintro r2 k hp1 ⟨rfl, k, hk, hl⟩
    cases hl
    refine ⟨fun hck => ?_, fun hck => ?_⟩
    · have hck : k < 8 := by simp at hck; omega
      refine (turn_43 _ _).mono ?_
      rintro e h' ⟨rfl, rfl⟩
      refine ⟨_, rfl, _, incI (by omega), ⟨rfl, k + 1, hck, ?_⟩, ?_⟩
      · rw [iter_succ']
      · simp only [numAt]; omega
    · have hck : k = 8 := by simp at hck; omega
      subst hck
      refine ⟨_, incI (by omega), ⟨rfl, i + 1, hc, ?_⟩, ?_⟩
      · rw [take_byte hc, takesB_snoc]; rfl
      · simp only [numAt]; omega
  · have hc : i = b.size := by simp at hc; omega
    subst hc
    refine ⟨?_, rfl⟩
    rw [take_size]

/-- The table of the quick way lies in block 0. -/
def halves : List Int := [0x00000000, 0x1db71064, 0x3b6e20c8, 0x26d930ac, 0x76dc4190, 0x6b6b51f4, 0x4db26158, 0x5005713c,
  0xedb88320, 0xf00f9344, 0xd6d6a3e8, 0xcb61b38c, 0x9b64c2b0, 0x86d3d2d4, 0xa00ae278, 0xbdbdf21c]
def Halves (h : Hp) : Prop := cellsAt h 0 0 (halves.map (Value.int .u32))

theorem Halves.ext {h h' : Hp} (x : Halves h) (e : Ext h h') : Halves h' := e.cells x

theorem halves_quad : ∀ i : Fin 16, halves[i.val]? = some ((iter turnB 4 (BitVec.ofNat 32 i.val)).toNat : Int) := by decide +kernel

theorem Halves.at {h : Hp} (x : Halves h) (y : W32) : cellH h ⟨0, 0 + Int.toNat (((y &&& 15#32).toNat : Int)) * 1, none⟩ = some (vW (iter turnB 4 (y &&& 15#32))) := by
  have hlt : (y &&& 15#32).toNat < 16 := by
    rw [BitVec.toNat_and]
    exact Nat.lt_of_le_of_lt Nat.and_le_right (by decide)
  have hq := halves_quad ⟨_, hlt⟩
  simp only [BitVec.ofNat_toNat, BitVec.setWidth_eq] at hq
  have := cellsAt_iff.1 x (y &&& 15#32).toNat (by simpa [halves] using hlt)
  rw [Int.toNat_natCast, Nat.mul_one, this]
  rw [List.getElem_map]
  congr 1
  rw [List.getElem?_eq_getElem (by simpa [halves] using hlt)] at hq
  rw [Option.some.inj hq]

/-- sums.takes -/
theorem takes_33 (r : W32) (b : ByteArray) (hb : b.size ≤ maxLen) (h : Hp) (hh : Halves h) : CallsH Tryd.prog 33 #[vW r, .string b] h (Ret (vW (takesB r (bl b))) h) := by
  have hb' : b.size ≤ 9223372036854775807 := hb
  refine V33 _ b h _ ⟨fun l hp => hp = h ∧ ∃ i : Nat, i ≤ b.size ∧ l = [vW (takesB r ((bl b).take i)), .int .i64 i], fun l _ => (b.size - numAt l 1).toNat, ⟨rfl, 0, Nat.zero_le _, rfl⟩, ?_⟩
  rintro r1 x hp ⟨rfl, i, hi, hl⟩
  cases hl
  refine ⟨fun hc => ?_, fun hc => ?_⟩
  · have hc : i < b.size := by simpa using hc
    have h15 : ∀ y : W32, (((y &&& 15#32).toNat : Int)) < 16 := fun y => by
      rw [BitVec.toNat_and]
      have : y.toNat &&& (15#32).toNat ≤ (15#32).toNat := Nat.and_le_right
      simp at this ⊢; omega
    refine ⟨by omega, _, byteAt hc, _, byte32 _, _, xor32 _ _, by decide, _, shr32 _ 4 (by decide), _, and32 _ 15#32, by omega, h15 _, _, cellsAt_one (hh.at _), _, xor32 _ _,
      by decide, _, shr32 _ 4 (by decide), _, and32 _ 15#32, by omega, h15 _, _, cellsAt_one (hh.at _), _, xor32 _ _, _, incI (by omega), ⟨rfl, i + 1, hc, ?_⟩, ?_⟩
    · rw [take_byte hc, takesB_snoc, take_quads]
    · simp only [numAt]; omega
  · have hc : i = b.size := by simp at hc; omega
    subst hc
    exact ⟨by rw [take_size], rfl⟩

/-- turnoutref02.More -/
theorem more_21 (s : W32) (b : ByteArray) (hb : b.size ≤ maxLen) (h : Hp) : CallsH Tryd.prog 21 #[vW s, .string b] h (Ret (vW (moreB s (bl b))) h) := by
  refine V21 _ b h _ ((over_35 s h).mono ?_)
  rintro e h1 ⟨rfl, rfl⟩
  refine ⟨_, rfl, (takes_34 _ b hb _).mono ?_⟩
  rintro e h2 ⟨rfl, rfl⟩
  refine ⟨_, rfl, (over_35 _ _).mono ?_⟩
  rintro e h3 ⟨rfl, rfl⟩
  exact ⟨_, rfl, rfl, rfl⟩

/-- sums.More -/
theorem more_22 (s : W32) (b : ByteArray) (hb : b.size ≤ maxLen) (h : Hp) (hh : Halves h) : CallsH Tryd.prog 22 #[vW s, .string b] h (Ret (vW (moreB s (bl b))) h) := by
  refine V22 _ b h _ ⟨_, not32 s, (takes_33 _ b hb _ hh).mono ?_⟩
  rintro e h1 ⟨rfl, rfl⟩
  exact ⟨_, rfl, _, not32 _, rfl, rfl⟩

end Go.Vc
