/- Bytes written and read, in plain Lean. -/
import Derived.Test.YtlidgpojlgochaaGreatDoorFrM
import Derived.Test.YtlidgpojlgochaaGreatDoorVcF
set_option maxRecDepth 10000
namespace Go.Vc
open Go

/-- A number's bytes, seven bits in each. -/
def uintG : Nat → Nat → List UInt8
  | 0, n => [UInt8.ofNat n]
  | k + 1, n => if n < 128 then [UInt8.ofNat n] else UInt8.ofNat (n % 128 + 128) :: uintG k (n / 128)
def uintL (n : Nat) : List UInt8 := uintG 9 n

theorem uintG_small {n : Nat} (k : Nat) (h : n < 128) : uintG k n = [UInt8.ofNat n] := by
  cases k with
  | zero => rfl
  | succ k => rw [uintG, if_pos h]

theorem uintG_len : ∀ (k n : Nat), 1 ≤ (uintG k n).length ∧ (uintG k n).length ≤ k + 1
  | 0, n => by simp [uintG]
  | k + 1, n => by
    rw [uintG]
    split
    · simp
    · have := uintG_len k (n / 128)
      simp only [List.length_cons]; omega

/-- What bytes say as a number: the error, the number, how many bytes. -/
def numG (most : Nat) : Nat → Nat → Nat → List UInt8 → Int × Nat × Nat
  | 0, _, _, _ => (30, 0, 0)
  | _ + 1, _, _, [] => (3, 0, 0)
  | f + 1, i, n, c :: l =>
    if 128 ≤ c.toNat then numG most f (i + 1) ((n + c.toNat % 128 * 128 ^ i) % 18446744073709551616) l
    else if (c.toNat = 0 ∧ 0 < i) ∨ (i = 9 ∧ 1 < c.toNat) then (30, 0, 0)
    else if most < (n + c.toNat % 128 * 128 ^ i) % 18446744073709551616 then (2, 0, 0)
    else (0, (n + c.toNat % 128 * 128 ^ i) % 18446744073709551616, i + 1)

theorem or64n {a b : Nat} (ha : a < 18446744073709551616) (hb : b < 18446744073709551616) : orI .u64 (a : Int) (b : Int) = ((a ||| b : Nat) : Int) := by
  unfold orI
  rw [show IntKind.u64.bits = 64 from rfl, BitVec.ofInt_natCast, BitVec.ofInt_natCast, BitVec.toNat_or, BitVec.toNat_ofNat, BitVec.toNat_ofNat, Nat.mod_eq_of_lt ha, Nat.mod_eq_of_lt hb, wrapU64]
  have : a ||| b < 2 ^ 64 := Nat.or_lt_two_pow ha hb
  omega

theorem or_low {k a b : Nat} (h : a < 2 ^ k) : a ||| (2 ^ k * b) = 2 ^ k * b + a := by
  rw [Nat.or_comm, Nat.two_pow_add_eq_or_of_lt h]

theorem shl64n {a n : Nat} (hn : n ≤ 64) : shlI .u64 (a : Int) (n : Int) = ((a * 2 ^ n % 18446744073709551616 : Nat) : Int) := by
  unfold shlI
  rw [show IntKind.u64.bits = 64 from rfl, Int.toNat_natCast, Nat.min_eq_left hn, wrapU64]
  rw [show ((2 : Int) ^ n) = ((2 ^ n : Nat) : Int) by simp]
  omega

theorem sr64n {a n : Nat} (hn : n ≤ 64) : shrI .u64 (a : Int) (n : Int) = ((a / 2 ^ n : Nat) : Int) := by
  rw [shr_nat .u64 a n hn, Nat.shiftRight_eq_div_pow]

theorem right_ge {N n : Nat} (hn : 64 ≤ n) (hN : N < 2 ^ 128) : N / 2 ^ 64 / 2 ^ (n - 64) = N / 2 ^ n ∧ N / 2 ^ n < 2 ^ 64 := by
  constructor
  · rw [Nat.div_div_eq_div_mul, ← Nat.pow_add, show 64 + (n - 64) = n by omega]
  · rw [Nat.div_lt_iff_lt_mul (Nat.two_pow_pos n), ← Nat.pow_add]
    exact Nat.lt_of_lt_of_le hN (Nat.pow_le_pow_right (by decide) (by omega))

theorem right_lt {N n : Nat} (hn : n < 64) : N / 2 ^ n / 2 ^ 64 = N / 2 ^ 64 / 2 ^ n ∧ (N / 2 ^ n) % 2 ^ 64 = ((N % 2 ^ 64) / 2 ^ n) ||| ((N / 2 ^ 64 * 2 ^ (64 - n)) % 2 ^ 64) := by
  constructor
  · rw [Nat.div_div_eq_div_mul, Nat.div_div_eq_div_mul, Nat.mul_comm]
  · obtain ⟨H, hH⟩ : ∃ H, H = N / 2 ^ 64 := ⟨_, rfl⟩
    obtain ⟨L, hL⟩ : ∃ L, L = N % 2 ^ 64 := ⟨_, rfl⟩
    have hNe : N = 2 ^ 64 * H + L := by rw [hH, hL]; exact (Nat.div_add_mod N (2 ^ 64)).symm
    have hLlt : L < 2 ^ 64 := by rw [hL]; exact Nat.mod_lt _ (Nat.two_pow_pos 64)
    rw [← hH, ← hL]
    have e64 : 2 ^ 64 = 2 ^ n * 2 ^ (64 - n) := by rw [← Nat.pow_add]; congr 1; omega
    have e1 : N / 2 ^ n = H * 2 ^ (64 - n) + L / 2 ^ n := by
      rw [hNe, e64, Nat.mul_assoc, Nat.mul_add_div (Nat.two_pow_pos n), Nat.mul_comm H]
    have e2 : L / 2 ^ n < 2 ^ (64 - n) := by
      rw [Nat.div_lt_iff_lt_mul (Nat.two_pow_pos n), Nat.mul_comm, ← e64]; exact hLlt
    have e3 : (H * 2 ^ (64 - n)) % 2 ^ 64 = 2 ^ (64 - n) * (H % 2 ^ n) := by
      rw [e64, Nat.mul_comm H, Nat.mul_comm (2 ^ n), Nat.mul_mod_mul_left]
    rw [e3, or_low e2, e1]
    have e4 : H * 2 ^ (64 - n) = 2 ^ 64 * (H / 2 ^ n) + 2 ^ (64 - n) * (H % 2 ^ n) := by
      rw [e64, Nat.mul_comm (2 ^ n), Nat.mul_assoc, ← Nat.mul_add, Nat.div_add_mod, Nat.mul_comm]
    rw [e4, Nat.add_assoc, Nat.mul_add_mod]
    refine Nat.mod_eq_of_lt ?_
    have h1 : H % 2 ^ n < 2 ^ n := Nat.mod_lt _ (Nat.two_pow_pos n)
    have h2 : 2 ^ (64 - n) * (H % 2 ^ n) + 2 ^ (64 - n) ≤ 2 ^ 64 := by
      rw [e64, ← Nat.mul_succ, Nat.mul_comm (2 ^ n)]; exact Nat.mul_le_mul_left _ h1
    omega

theorem left8 {N : Nat} : (N * 256 % 2 ^ 128) / 2 ^ 64 = ((N / 2 ^ 64 * 2 ^ 8) % 2 ^ 64) ||| (N % 2 ^ 64 / 2 ^ 56) ∧ (N * 256 % 2 ^ 128) % 2 ^ 64 = (N % 2 ^ 64 * 2 ^ 8) % 2 ^ 64 := by
  have h1 : N % 2 ^ 64 / 2 ^ 56 < 2 ^ 8 := by omega
  have h2 : (N / 2 ^ 64 * 2 ^ 8) % 2 ^ 64 = 2 ^ 8 * (N / 2 ^ 64 % 2 ^ 56) := by omega
  rw [h2, Nat.or_comm, or_low h1]
  omega

theorem beL_succ : ∀ (i n : Nat), beL (i + 1) n = UInt8.ofNat (n / 256 ^ i) :: beL i n
  | 0, n => by simp [beL]
  | i + 1, n => by
    rw [beL, beL_succ i, List.cons_append, Nat.div_div_eq_div_mul, Nat.pow_succ, Nat.mul_comm 256]
    rfl

theorem set_back {i k : Nat} (hi : i < k) (L : List UInt8) (c : UInt8) : (List.replicate (k - i) 0 ++ L).set (k - 1 - i) c = List.replicate (k - (i + 1)) 0 ++ c :: L := by
  rw [show k - i = (k - (i + 1)) + 1 by omega, List.replicate_succ', List.append_assoc, show k - 1 - i = (List.replicate (k - (i + 1)) (0 : UInt8)).length + 0 by rw [List.length_replicate]; omega, List.set_append_right _ _ (by omega), Nat.add_sub_cancel_left]
  rfl

/-- What a value's bytes are; what bytes are as a value. -/
def isW (w : Int) : Bool := decide (1 ≤ w ∧ w ≤ 128)
def fitsN (N : Nat) (w : Int) : Bool := isW w && decide (N / 2 ^ w.toNat = 0)
def bytesF (N : Nat) (w : Int) : List UInt8 × Int := if isW w = false then ([], 10) else if fitsN N w = false then ([], 11) else (beL ((w.toNat + 7) / 8) N, 0)
def fromF (l : List UInt8) (w : Int) : Nat × Int := if isW w = false then (0, 10) else if l.length ≠ (w.toNat + 7) / 8 then (0, 12) else if fitsN (numL l) w = false then (0, 11) else (numL l, 0)

theorem isW_iff {w : Int} : isW w = true ↔ 1 ≤ w ∧ w ≤ 128 := by simp [isW]

/-! ## The writer -/

structure Wr where
  b : List UInt8
  e : Int

def Wr.new : Wr := ⟨[], 0⟩
def Wr.uint (w : Wr) (n : Nat) : Wr := if w.e = 0 then { w with b := w.b ++ uintL n } else w
def Wr.fixed (w : Wr) (n : Nat) (k : Int) : Wr :=
  if w.e ≠ 0 then w else if k < 1 ∨ 8 < k then { w with e := 1 } else if k < 8 ∧ n / 2 ^ (8 * k.toNat) ≠ 0 then { w with e := 11 } else { w with b := w.b ++ beL k.toNat n }
def Wr.text (w : Wr) (s : List UInt8) : Wr := if w.e = 0 then { w with b := w.b ++ (uintL s.length ++ s) } else w
def Wr.raw (w : Wr) (s : List UInt8) : Wr := if w.e = 0 then { w with b := w.b ++ s } else w
def Wr.bits (w : Wr) (N : Nat) (k : Int) : Wr := if w.e = 0 then { b := w.b ++ (bytesF N k).1, e := (bytesF N k).2 } else w
def Wr.out (w : Wr) : List UInt8 × Int := if w.e ≠ 0 then ([], w.e) else (w.b, 0)

/-! ## The reader -/

structure Rd where
  b : List UInt8
  at_ : Nat
  e : Int
  place : Nat

structure Rd.Ok (r : Rd) : Prop where
  at_ : r.at_ ≤ r.b.length
  max : r.b.length ≤ 9223372036854775807
  place : r.place ≤ r.b.length

def Rd.open (b : List UInt8) : Rd := ⟨b, 0, 0, 0⟩
def Rd.bad (r : Rd) (c : Int) : Rd := { r with e := c, place := r.at_ }
def Rd.to (r : Rd) (k : Nat) : Rd := { r with at_ := r.at_ + k }
def Rd.left (r : Rd) : List UInt8 := r.b.drop r.at_
def Rd.uint (r : Rd) (most : Nat) : Nat × Rd :=
  if r.e ≠ 0 then (0, r) else if (numG most 10 0 0 r.left).1 ≠ 0 then (0, r.bad (numG most 10 0 0 r.left).1) else ((numG most 10 0 0 r.left).2.1, r.to (numG most 10 0 0 r.left).2.2)
def Rd.raw (r : Rd) (k : Int) : List UInt8 × Rd :=
  if r.e ≠ 0 then ([], r) else if k < 0 then ([], r.bad 1) else if (r.left.length : Int) < k then ([], r.bad 3) else (r.left.take k.toNat, r.to k.toNat)
def Rd.fixed (r : Rd) (k : Int) : Nat × Rd :=
  if r.e ≠ 0 then (0, r) else if k < 1 ∨ 8 < k then (0, r.bad 1) else if (r.left.length : Int) < k then (0, r.bad 3) else (numL (r.left.take k.toNat), r.to k.toNat)
def Rd.text (r : Rd) (most : Int) : List UInt8 × Rd :=
  if r.e ≠ 0 then ([], r) else if most < 0 then ([], r.bad 1) else if (numG most.toNat 10 0 0 r.left).1 ≠ 0 then ([], r.bad (numG most.toNat 10 0 0 r.left).1)
  else if r.left.length < (numG most.toNat 10 0 0 r.left).2.2 + (numG most.toNat 10 0 0 r.left).2.1 then ([], r.bad 3)
  else ((r.left.drop (numG most.toNat 10 0 0 r.left).2.2).take (numG most.toNat 10 0 0 r.left).2.1, r.to ((numG most.toNat 10 0 0 r.left).2.2 + (numG most.toNat 10 0 0 r.left).2.1))
def Rd.bits (r : Rd) (k : Int) : Nat × Rd :=
  if r.e ≠ 0 then (0, r) else if isW k = false then (0, r.bad 10) else if r.left.length < (k.toNat + 7) / 8 then (0, r.bad 3)
  else if (fromF (r.left.take ((k.toNat + 7) / 8)) k).2 ≠ 0 then ((fromF (r.left.take ((k.toNat + 7) / 8)) k).1, r.bad (fromF (r.left.take ((k.toNat + 7) / 8)) k).2)
  else ((fromF (r.left.take ((k.toNat + 7) / 8)) k).1, r.to ((k.toNat + 7) / 8))
def Rd.fin (r : Rd) : Int := if r.e = 0 ∧ r.at_ < r.b.length then 31 else r.e

end Go.Vc
