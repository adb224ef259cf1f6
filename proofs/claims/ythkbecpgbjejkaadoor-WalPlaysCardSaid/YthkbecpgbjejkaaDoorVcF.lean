/- Facts about the conditions: numbers. -/
import Derived.Test.YthkbecpgbjejkaaDoorVcE
set_option maxRecDepth 10000
namespace Go.Vc
open Go

/-! ## Unsigned numbers as words -/

theorem natCast_mod_lt {a b : Nat} (h : a < b) : ((a : Int) % (b : Int)) = a := by
  rw [← Int.natCast_emod, Nat.mod_eq_of_lt h]

theorem wrapU8 (n : Int) : IntKind.u8.wrap n = n % 256 := by simp [IntKind.wrap, IntKind.bits, IntKind.signed]
theorem wrapU16 (n : Int) : IntKind.u16.wrap n = n % 65536 := by simp [IntKind.wrap, IntKind.bits, IntKind.signed]
theorem wrapU32 (n : Int) : IntKind.u32.wrap n = n % 4294967296 := by simp [IntKind.wrap, IntKind.bits, IntKind.signed]
theorem wrapU64 (n : Int) : IntKind.u64.wrap n = n % 18446744073709551616 := by simp [IntKind.wrap, IntKind.bits, IntKind.signed]
theorem wrapI64 {n : Int} (h0 : -9223372036854775808 ≤ n) (h1 : n ≤ 9223372036854775807) : IntKind.i64.wrap n = n := by
  rw [IntKind.wrap_i64]; omega

theorem wrapWord32 (x : BitVec 32) : IntKind.u32.wrap (x.toNat : Int) = x.toNat := by
  have := x.isLt; rw [wrapU32]; omega
theorem wrapWord64 (x : BitVec 64) : IntKind.u64.wrap (x.toNat : Int) = x.toNat := by
  have := x.isLt; rw [wrapU64]; omega
theorem wrapWord16 (x : BitVec 16) : IntKind.u16.wrap (x.toNat : Int) = x.toNat := by
  have := x.isLt; rw [wrapU16]; omega
theorem wrapWord8 (x : BitVec 8) : IntKind.u8.wrap (x.toNat : Int) = x.toNat := by
  have := x.isLt; rw [wrapU8]; omega

theorem ofIntWord {n : Nat} (x : BitVec n) : BitVec.ofInt n (x.toNat : Int) = x := by
  rw [BitVec.ofInt_natCast, BitVec.ofNat_toNat, BitVec.setWidth_eq]

theorem xor32 (a b : BitVec 32) : xorI .u32 (a.toNat : Int) (b.toNat : Int) = ((a ^^^ b).toNat : Int) := by
  unfold xorI
  rw [show IntKind.u32.bits = 32 from rfl, ofIntWord, ofIntWord]
  exact wrapWord32 _
theorem and32 (a b : BitVec 32) : andI .u32 (a.toNat : Int) (b.toNat : Int) = ((a &&& b).toNat : Int) := by
  unfold andI
  rw [show IntKind.u32.bits = 32 from rfl, ofIntWord, ofIntWord]
  exact wrapWord32 _
theorem or32 (a b : BitVec 32) : orI .u32 (a.toNat : Int) (b.toNat : Int) = ((a ||| b).toNat : Int) := by
  unfold orI
  rw [show IntKind.u32.bits = 32 from rfl, ofIntWord, ofIntWord]
  exact wrapWord32 _
theorem xor8 (a b : BitVec 8) : xorI .u8 (a.toNat : Int) (b.toNat : Int) = ((a ^^^ b).toNat : Int) := by
  unfold xorI
  rw [show IntKind.u8.bits = 8 from rfl, ofIntWord, ofIntWord]
  exact wrapWord8 _
theorem and64 (a b : BitVec 64) : andI .u64 (a.toNat : Int) (b.toNat : Int) = ((a &&& b).toNat : Int) := by
  unfold andI
  rw [show IntKind.u64.bits = 64 from rfl, ofIntWord, ofIntWord]
  exact wrapWord64 _
theorem not32 (a : BitVec 32) : notI .u32 (a.toNat : Int) = ((~~~a).toNat : Int) := by
  unfold notI
  rw [show (if IntKind.u32.signed then (-1 : Int) else IntKind.u32.max) = ((BitVec.allOnes 32).toNat : Int) from rfl, xor32, BitVec.allOnes_xor]
theorem not16 (a : BitVec 16) : notI .u16 (a.toNat : Int) = ((~~~a).toNat : Int) := by
  unfold notI xorI
  rw [show (if IntKind.u16.signed then (-1 : Int) else IntKind.u16.max) = ((BitVec.allOnes 16).toNat : Int) from rfl, show IntKind.u16.bits = 16 from rfl, ofIntWord, ofIntWord, wrapWord16, BitVec.allOnes_xor]
theorem toNat_not16 (a : BitVec 16) : ((~~~a).toNat : Int) = 65535 - (a.toNat : Int) := by
  have := a.isLt
  rw [BitVec.toNat_not]; omega
theorem notI16 {n : Int} (h0 : 0 ≤ n) (h1 : n < 65536) : notI .u16 n = 65535 - n := by
  have : n = ((BitVec.ofNat 16 n.toNat).toNat : Int) := by
    rw [BitVec.toNat_ofNat]; omega
  rw [this, not16, toNat_not16]

theorem shr_nat (k : IntKind) (a : Nat) (n : Nat) (h : n ≤ k.bits) : shrI k (a : Int) (n : Int) = ((a >>> n : Nat) : Int) := by
  unfold shrI
  have h2 : (0 : Int) ≤ 2 ^ n := Int.le_of_lt (Int.pow_pos (by decide))
  rw [show min (n : Int).toNat k.bits = n by simp; omega, Int.fdiv_eq_ediv_of_nonneg _ h2, Nat.shiftRight_eq_div_pow]
  simp

theorem shr32 (a : BitVec 32) (n : Nat) (h : n ≤ 32) : shrI .u32 (a.toNat : Int) (n : Int) = ((a >>> n).toNat : Int) := by
  rw [shr_nat _ _ _ h, BitVec.toNat_ushiftRight]
theorem shr64 (a : BitVec 64) (n : Nat) (h : n ≤ 64) : shrI .u64 (a.toNat : Int) (n : Int) = ((a >>> n).toNat : Int) := by
  rw [shr_nat _ _ _ h, BitVec.toNat_ushiftRight]
theorem shl32 (a : BitVec 32) (n : Nat) (h : n ≤ 32) : shlI .u32 (a.toNat : Int) (n : Int) = ((a <<< n).toNat : Int) := by
  unfold shlI
  rw [show min (n : Int).toNat IntKind.u32.bits = n by simp [IntKind.bits]; omega, wrapU32, BitVec.toNat_shiftLeft, Nat.shiftLeft_eq]
  simp
theorem add32 (a b : BitVec 32) : IntKind.u32.wrap ((a.toNat : Int) + (b.toNat : Int)) = ((a + b).toNat : Int) := by
  rw [wrapU32, BitVec.toNat_add]; omega
theorem mul32 (a b : BitVec 32) : IntKind.u32.wrap ((a.toNat : Int) * (b.toNat : Int)) = ((a * b).toNat : Int) := by
  rw [wrapU32, BitVec.toNat_mul]; simp
theorem div32 (a b : BitVec 32) : IntKind.u32.wrap (Int.tdiv (a.toNat : Int) (b.toNat : Int)) = ((a / b).toNat : Int) := by
  rw [← Int.ofNat_tdiv, BitVec.toNat_udiv, wrapU32]
  have h : a.toNat / b.toNat ≤ a.toNat := Nat.div_le_self _ _
  have := a.isLt
  generalize a.toNat / b.toNat = q at *
  omega
theorem mod32 (a b : BitVec 32) : Int.tmod (a.toNat : Int) (b.toNat : Int) = ((a % b).toNat : Int) := by
  rw [← Int.ofNat_tmod, BitVec.toNat_umod]
theorem byte32 (c : UInt8) : IntKind.u32.wrap (c.toNat : Int) = ((BitVec.setWidth 32 c.toBitVec).toNat : Int) := by
  have := c.toNat_lt
  rw [wrapU32, BitVec.toNat_setWidth]
  simp
  omega

/-- The 'i'th value of a list, a number. -/
def numAt : List Value → Nat → Int
  | [], _ => 0
  | .int _ n :: _, 0 => n
  | _ :: _, 0 => 0
  | _ :: r, i + 1 => numAt r i

end Go.Vc
