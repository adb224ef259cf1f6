/- Contracts of the sums' functions, the simple ones. -/
import Derived.Test.YthkbecpgbjejkaaDoorS9WV
import Derived.Test.YthkbecpgbjejkaaDoorS2M
import Derived.Test.YthkbecpgbjejkaaDoorVcO
set_option maxRecDepth 10000
namespace Go.Vc
open Go Go.Proofs

/-- It returns this, and the heap is as it was. -/
def Ret (v : Value) (h : Hp) : Ending → Hp → Prop := fun e h' => e = .returned v ∧ h' = h
abbrev vW (x : W32) : Value := .int .u32 (x.toNat : Int)

theorem odd_bit (r : W32) : r.getLsbD 0 = decide (r.toNat % 2 = 1) := by
  rw [BitVec.getLsbD, Nat.testBit_zero]

theorem top_bit (r : W32) : r.getLsbD 31 = decide (2147483648 ≤ r.toNat) := by
  have := r.isLt
  rw [BitVec.getLsbD, Nat.testBit_eq_decide_div_mod_eq]
  congr 1
  apply propext
  omega

/-- turnoutref02.turn -/
theorem rTurn_c (r : W32) (h : Hp) : CallsH Tryd.prog 105 #[vW r] h (Ret (vW (turnB r)) h) := by
  refine V105 _ h _ ⟨by decide, _, mod32 r 2#32, fun hc => ?_, fun hc => ?_⟩
  · refine ⟨by decide, _, div32 r 2#32, _, xor32 (r / 2#32) 3988292384#32, ?_, rfl⟩
    have hb : r.getLsbD 0 = true := by rw [odd_bit]; simp [BitVec.toNat_umod] at hc ⊢; omega
    rw [turnB, hb, cond_true, show r / 2#32 = r >>> 1 by apply BitVec.eq_of_toNat_eq; rw [BitVec.toNat_udiv, BitVec.toNat_ushiftRight, Nat.shiftRight_eq_div_pow]; rfl]
    rfl
  · refine ⟨by decide, _, div32 r 2#32, ?_, rfl⟩
    have hb : r.getLsbD 0 = false := by rw [odd_bit]; simp [BitVec.toNat_umod] at hc ⊢; omega
    rw [turnB, hb, cond_false, BitVec.xor_zero, show r / 2#32 = r >>> 1 by apply BitVec.eq_of_toNat_eq; rw [BitVec.toNat_udiv, BitVec.toNat_ushiftRight, Nat.shiftRight_eq_div_pow]; rfl]

/-- turnoutref02.over -/
theorem rOver_c (r : W32) (h : Hp) : CallsH Tryd.prog 104 #[vW r] h (Ret (vW (~~~r)) h) := by
  refine V104 _ h _ ⟨_, ?_, rfl, rfl⟩
  have := r.isLt
  rw [wrapU32, BitVec.toNat_not]; omega

theorem byteAt {b : ByteArray} {i : Nat} (h : i < b.size) : b[i]? = some b[i] := by
  rw [getElem?_pos b i h]

theorem take_byte {b : ByteArray} {i : Nat} (h : i < b.size) : b.data.toList.take (i + 1) = b.data.toList.take i ++ [b[i]] := by
  rw [List.take_add_one]
  congr 1
  have : b.data.toList[i]? = some b[i] := by
    have hs : i < b.data.size := h
    rw [Array.getElem?_toList, Array.getElem?_eq_getElem hs]
    rfl
  rw [this]; rfl

theorem take_size (b : ByteArray) : b.data.toList.take b.size = b.data.toList := List.take_of_length_le (by simp)

/-- The bytes of a text. -/
abbrev bl (b : ByteArray) : List UInt8 := b.data.toList

/-- turnoutref02.takes -/
theorem rTakes_c (r : W32) (b : ByteArray) (hb : b.size ≤ maxLen) (h : Hp) : CallsH Tryd.prog 103 #[vW r, .string b] h (Ret (vW (takesB r (bl b))) h) := by
  have hb' : b.size ≤ 9223372036854775807 := hb
  refine V103 _ b h _ ⟨fun l hp => hp = h ∧ ∃ i : Nat, i ≤ b.size ∧ l = [vW (takesB r ((bl b).take i)), .int .i64 i], fun l _ => (b.size - numAt l 1).toNat, ⟨rfl, 0, Nat.zero_le _, rfl⟩, ?_⟩
  rintro r1 x hp ⟨rfl, i, hi, hl⟩
  cases hl
  refine ⟨fun hc => ?_, fun hc => ?_⟩
  · have hc : i < b.size := by simpa using hc
    refine ⟨by omega, _, byteAt hc, _, byte32 _, _, xor32 _ _, ?_⟩
    refine ⟨fun l hp' => hp' = hp ∧ ∃ k : Nat, k ≤ 8 ∧ l = [vW (iter turnB k (takesB r ((bl b).take i) ^^^ (BitVec.setWidth 32 b[i].toBitVec))), .int .i64 k], fun l _ => (8 - numAt l 1).toNat, ⟨rfl, 0, by decide, rfl⟩, ?_⟩
    rintro r2 k hp1 ⟨rfl, k, hk, hl⟩
    cases hl
    refine ⟨fun hck => ?_, fun hck => ?_⟩
    · have hck : k < 8 := by simp at hck; omega
      refine (rTurn_c _ _).mono ?_
      rintro e h' ⟨rfl, rfl⟩
      refine ⟨_, rfl, _, incI (by omega), ⟨rfl, k + 1, hck, ?_⟩, ?_⟩
      · rw [iter_succ']
      · simp only [numAt]; omega
    · have hck : k = 8 := by simp at hck; omega
      subst hck
      refine ⟨_, incI (by omega), ⟨rfl, i + 1, hc, ?_⟩, ?_⟩
      · rw [take_byte hc, takesB_snoc]; rfl
      · simp only [numAt]; omega
  · have hc : i = b.size := by simp at hc; omega
    subst hc
    refine ⟨?_, rfl⟩
    rw [take_size]

/-- The table of the quick way lies in block 0. -/
def halves : List Int := [0x00000000, 0x1db71064, 0x3b6e20c8, 0x26d930ac, 0x76dc4190, 0x6b6b51f4, 0x4db26158, 0x5005713c,
  0xedb88320, 0xf00f9344, 0xd6d6a3e8, 0xcb61b38c, 0x9b64c2b0, 0x86d3d2d4, 0xa00ae278, 0xbdbdf21c]
def Halves (h : Hp) : Prop := cellsAt h 2 0 (halves.map (Value.int .u32))

theorem Halves.ext {h h' : Hp} (x : Halves h) (e : Ext h h') : Halves h' := e.cells x

theorem halves_quad : ∀ i : Fin 16, halves[i.val]? = some ((iter turnB 4 (BitVec.ofNat 32 i.val)).toNat : Int) := by decide +kernel

theorem Halves.at {h : Hp} (x : Halves h) (y : W32) : cellH h ⟨2, 0 + Int.toNat (((y &&& 15#32).toNat : Int)) * 1, none⟩ = some (vW (iter turnB 4 (y &&& 15#32))) := by
  have hlt : (y &&& 15#32).toNat < 16 := by
    rw [BitVec.toNat_and]
    exact Nat.lt_of_le_of_lt Nat.and_le_right (by decide)
  have hq := halves_quad ⟨_, hlt⟩
  simp only [BitVec.ofNat_toNat, BitVec.setWidth_eq] at hq
  have := cellsAt_iff.1 x (y &&& 15#32).toNat (by simpa [halves] using hlt)
  rw [Int.toNat_natCast, Nat.mul_one, this]
  rw [List.getElem_map]
  congr 1
  rw [List.getElem?_eq_getElem (by simpa [halves] using hlt)] at hq
  rw [Option.some.inj hq]

/-- sums.takes -/
theorem takes_c (r : W32) (b : ByteArray) (hb : b.size ≤ maxLen) (h : Hp) (hh : Halves h) : CallsH Tryd.prog 95 #[vW r, .string b] h (Ret (vW (takesB r (bl b))) h) := by
  have hb' : b.size ≤ 9223372036854775807 := hb
  refine V95 _ b h _ ⟨fun l hp => hp = h ∧ ∃ i : Nat, i ≤ b.size ∧ l = [vW (takesB r ((bl b).take i)), .int .i64 i], fun l _ => (b.size - numAt l 1).toNat, ⟨rfl, 0, Nat.zero_le _, rfl⟩, ?_⟩
  rintro r1 x hp ⟨rfl, i, hi, hl⟩
  cases hl
  refine ⟨fun hc => ?_, fun hc => ?_⟩
  · have hc : i < b.size := by simpa using hc
    have h15 : ∀ y : W32, (((y &&& 15#32).toNat : Int)) < 16 := fun y => by
      rw [BitVec.toNat_and]
      have : y.toNat &&& (15#32).toNat ≤ (15#32).toNat := Nat.and_le_right
      simp at this ⊢; omega
    refine ⟨by omega, _, byteAt hc, _, byte32 _, _, xor32 _ _, by decide, _, shr32 _ 4 (by decide), _, and32 _ 15#32, by omega, h15 _, _, cellsAt_one (hh.at _), _, xor32 _ _,
      by decide, _, shr32 _ 4 (by decide), _, and32 _ 15#32, by omega, h15 _, _, cellsAt_one (hh.at _), _, xor32 _ _, _, incI (by omega), ⟨rfl, i + 1, hc, ?_⟩, ?_⟩
    · rw [take_byte hc, takesB_snoc, take_quads]
    · simp only [numAt]; omega
  · have hc : i = b.size := by simp at hc; omega
    subst hc
    exact ⟨by rw [take_size], rfl⟩

/-- turnoutref02.More -/
theorem rMore_c (s : W32) (b : ByteArray) (hb : b.size ≤ maxLen) (h : Hp) : CallsH Tryd.prog 102 #[vW s, .string b] h (Ret (vW (moreB s (bl b))) h) := by
  refine V102 _ b h _ ((rOver_c s h).mono ?_)
  rintro e h1 ⟨rfl, rfl⟩
  refine ⟨_, rfl, (rTakes_c _ b hb _).mono ?_⟩
  rintro e h2 ⟨rfl, rfl⟩
  refine ⟨_, rfl, (rOver_c _ _).mono ?_⟩
  rintro e h3 ⟨rfl, rfl⟩
  exact ⟨_, rfl, rfl, rfl⟩

theorem take_one {α : Type} {l : List α} {i : Nat} (hc : i < l.length) : l.take (i + 1) = l.take i ++ [l[i]] := by
  rw [List.take_add_one, List.getElem?_eq_getElem hc]; rfl

/-- The sum of parts. -/
def sumB (l : List ByteArray) : W32 := ~~~ (l.foldl (fun r b => takesB r (bl b)) (BitVec.allOnes 32))

theorem sumB_more (l : List ByteArray) (b : ByteArray) : sumB (l ++ [b]) = moreB (sumB l) (bl b) := by
  unfold sumB moreB
  rw [List.foldl_append, BitVec.not_not]; rfl

/-- sums.Sum -/
theorem sum_c (l : List ByteArray) (hl : ∀ b ∈ l, b.size ≤ maxLen) (h : Hp) (hh : Halves h) {p : Option Addr} {n c : Nat} (hs : Seg h p n (l.map Value.string)) (hn : n ≤ maxLen) :
    CallsH Tryd.prog 86 #[.slice p n c] h (Ret (vW (sumB l)) h) := by
  have hln : l.length = n := by have := hs.1; simpa using this
  have hn' : n ≤ 9223372036854775807 := hn
  refine V86 _ _ _ h _ ⟨fun l' hp => hp = h ∧ ∃ i : Nat, i ≤ l.length ∧ l' = [vW ((l.take i).foldl (fun r b => takesB r (bl b)) (BitVec.allOnes 32)), .int .i64 i], fun l' _ => (l.length - numAt l' 1).toNat, ⟨rfl, 0, Nat.zero_le _, rfl⟩, ?_⟩
  rintro r1 x hp ⟨rfl, i, hi, hl'⟩
  cases hl'
  refine ⟨fun hc => ?_, fun hc => ?_⟩
  · have hc : i < l.length := by simp at hc; omega
    refine hs.text hc ?_
    refine (takes_c _ _ (hl _ (List.getElem_mem hc)) _ hh).mono ?_
    rintro e h1 ⟨rfl, rfl⟩
    refine ⟨_, rfl, _, incI (by omega), ⟨rfl, i + 1, hc, ?_⟩, by simp only [numAt]; omega⟩
    rw [take_one hc, List.foldl_append]; rfl
  · have hc : i = l.length := by simp at hc; omega
    subst hc
    refine ⟨_, not32 _, ?_, rfl⟩
    rw [List.take_length]; rfl


end Go.Vc
