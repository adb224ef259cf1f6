/- Sums of ones: Ones, Patch; the law SumsOnes. -/
import Derived.Test.YtmjbccjelnhhiaaDoorS2B
set_option maxRecDepth 10000
namespace Go.Vc
open Go Go.Proofs Go.MapKept

/-- A sum, folded into 16 bits. -/
def FoldOk (n r : Nat) : Prop := r ≤ 65535 ∧ r % 65535 = n % 65535 ∧ (r = 0 ↔ n = 0)

theorem FoldOk.uniq {n r s : Nat} (h : FoldOk n r) (k : FoldOk n s) : r = s := by
  obtain ⟨h1, h2, h3⟩ := h
  obtain ⟨k1, k2, k3⟩ := k
  omega

theorem FoldOk.step {n r : Nat} (hn : 65535 < n) (h : FoldOk (n / 65536 + n % 65536) r) : FoldOk n r := by
  obtain ⟨h1, h2, h3⟩ := h
  refine ⟨h1, ?_, ?_⟩ <;> omega

theorem and64k (n : Nat) (h : n < 18446744073709551616) : andI .u64 (n : Int) (65535 : Int) = ((n % 65536 : Nat) : Int) := by
  have := and64 (BitVec.ofNat 64 n) 65535#64
  have h1 : (BitVec.ofNat 64 n).toNat = n := by rw [BitVec.toNat_ofNat]; exact Nat.mod_eq_of_lt h
  rw [h1, BitVec.toNat_and, h1] at this
  refine (show andI .u64 (n : Int) (((65535#64).toNat : Nat) : Int) = _ from this).trans ?_
  rw [show (65535#64).toNat = 2 ^ 16 - 1 from rfl, Nat.and_two_pow_sub_one_eq_mod]

/-- sums.folded -/
theorem folded_36 (n : Nat) (hn : n < 18446744073709551616) (h : Hp) : CallsH Tryd.prog 36 #[.int .u64 (n : Int)] h fun e h' => h' = h ∧ ∃ r : Nat, FoldOk n r ∧ e = .returned (.int .u16 (r : Int)) := by
  refine V36 _ h _ ⟨fun l hp => hp = h ∧ ∃ m : Nat, m < 18446744073709551616 ∧ (∀ r, FoldOk m r → FoldOk n r) ∧ l = [.int .u64 (m : Int)], fun l _ => (numAt l 0).toNat, ⟨rfl, n, hn, fun _ h => h, rfl⟩, ?_⟩
  rintro x hp ⟨rfl, m, hm, hf, hl⟩
  cases hl
  refine ⟨fun hc => ?_, fun hc => ?_⟩
  · have hc : 65535 < m := by simp at hc; omega
    refine ⟨by decide, _, shr_nat .u64 m 16 (by decide), _, and64k m hm, ((m / 65536 + m % 65536 : Nat) : Int), ?_, ⟨rfl, m / 65536 + m % 65536, by omega, fun r hr => hf r (FoldOk.step hc hr), rfl⟩, ?_⟩
    · rw [Nat.shiftRight_eq_div_pow, wrapU64]; omega
    · simp only [numAt]; omega
  · have hc : m ≤ 65535 := by simp at hc; omega
    refine ⟨(m : Int), ?_, rfl, m, hf m ⟨hc, rfl, Iff.rfl⟩, rfl⟩
    rw [wrapU16]; omega

/-- turnoutref02.folded -/
theorem folded_37 (n : Nat) (hn : n < 9223372036854775808) (h : Hp) : CallsH Tryd.prog 37 #[.int .i64 (n : Int)] h fun e h' => h' = h ∧ ∃ r : Nat, FoldOk n r ∧ e = .returned (.int .i64 (r : Int)) := by
  refine V37 _ h _ ⟨fun l hp => hp = h ∧ ∃ m : Nat, m < 9223372036854775808 ∧ (∀ r, FoldOk m r → FoldOk n r) ∧ l = [.int .i64 (m : Int)], fun l _ => (numAt l 0).toNat, ⟨rfl, n, hn, fun _ h => h, rfl⟩, ?_⟩
  rintro x hp ⟨rfl, m, hm, hf, hl⟩
  cases hl
  refine ⟨fun hc => ?_, fun hc => ?_⟩
  · have hc : 65535 < m := by simp at hc; omega
    refine ⟨by decide, ((m / 65536 : Nat) : Int), ?_, by decide, ((m % 65536 : Nat) : Int), (Int.ofNat_tmod m 65536).symm, ((m / 65536 + m % 65536 : Nat) : Int), ?_, ⟨rfl, m / 65536 + m % 65536, by omega, fun r hr => hf r (FoldOk.step hc hr), rfl⟩, ?_⟩
    · have : Int.tdiv (m : Int) 65536 = ((m / 65536 : Nat) : Int) := (Int.ofNat_tdiv m 65536).symm
      rw [this, wrapI64] <;> omega
    · rw [wrapI64] <;> omega
    · simp only [numAt]; omega
  · have hc : m ≤ 65535 := by simp at hc; omega
    exact ⟨rfl, m, hf m ⟨hc, rfl, Iff.rfl⟩, rfl⟩

/-- The sum of the words of bytes; the bytes' places begin at 'k'. -/
def wsum : Nat → List UInt8 → Nat
  | _, [] => 0
  | k, c :: r => (if k % 2 = 0 then 256 * c.toNat else c.toNat) + wsum (k + 1) r

theorem wsum_append (k : Nat) (l m : List UInt8) : wsum k (l ++ m) = wsum k l + wsum (k + l.length) m := by
  induction l generalizing k with
  | nil => simp [wsum]
  | cons c r ih => simp only [List.cons_append, wsum, ih, List.length_cons]; rw [show k + 1 + r.length = k + (r.length + 1) by omega]; omega

theorem wsum_le (k : Nat) (l : List UInt8) : wsum k l ≤ 65280 * l.length := by
  induction l generalizing k with
  | nil => simp [wsum]
  | cons c r ih =>
    have := ih (k + 1)
    have hc := c.toNat_lt
    simp only [wsum, List.length_cons]
    split <;> omega

theorem wsum_snoc {b : ByteArray} {i : Nat} (h : i < b.size) : wsum 0 ((bl b).take (i + 1)) = wsum 0 ((bl b).take i) + (if i % 2 = 0 then 256 * b[i].toNat else b[i].toNat) := by
  have hs : i < b.data.size := h
  show wsum 0 (b.data.toList.take (i + 1)) = wsum 0 (b.data.toList.take i) + _
  rw [take_byte h, wsum_append]
  simp only [wsum, Nat.zero_add, List.length_take, Array.length_toList]
  rw [Nat.min_eq_left (Nat.le_of_lt hs), Nat.add_zero]

theorem wsum_take_le (b : ByteArray) (i : Nat) (hi : i ≤ b.size) : wsum 0 ((bl b).take i) ≤ 65280 * i := by
  refine Nat.le_trans (wsum_le _ _) (Nat.mul_le_mul_left _ ?_)
  simp; omega

/-- What the sum of ones of bytes is. -/
def OnesOk (l : List UInt8) (s : Nat) : Prop := ∃ r, FoldOk (wsum 0 l) r ∧ s = 65535 - r

/-- sums.Ones -/
theorem ones_23 (b : ByteArray) (hb : b.size ≤ 140737488355328) (h : Hp) : CallsH Tryd.prog 23 #[.string b] h fun e h' => h' = h ∧ ∃ s : Nat, OnesOk (bl b) s ∧ e = .returned (.int .u16 (s : Int)) := by
  refine V23 b h _ ⟨fun l hp => hp = h ∧ ∃ i : Nat, i ≤ b.size ∧ l = [.int .u64 ((wsum 0 ((bl b).take i) : Nat) : Int), .int .i64 (i : Int)], fun l _ => (b.size - numAt l 1).toNat, ⟨rfl, 0, Nat.zero_le _, rfl⟩, ?_⟩
  rintro n x hp ⟨rfl, i, hi, hl⟩
  cases hl
  have hle := wsum_take_le b i hi
  refine ⟨fun hc => ?_, fun hc => ?_⟩
  · have hc : i < b.size := by simp at hc; omega
    have hbt := b[i].toNat_lt
    have hsn := wsum_snoc hc
    refine ⟨by decide, ((i % 2 : Nat) : Int), (Int.ofNat_tmod i 2).symm, fun he => ?_, fun ho => ?_⟩
    · have he : i % 2 = 0 := by simp at he; omega
      rw [if_pos he] at hsn
      refine ⟨by omega, _, byteAt hc, (b[i].toNat : Int), by rw [wrapU64]; omega, by decide, ((256 * b[i].toNat : Nat) : Int), ?_, _, ?_, _, incI (by omega), ⟨rfl, i + 1, hc, rfl⟩, by simp only [numAt]; omega⟩
      · unfold shlI
        rw [wrapU64, show min (Int.toNat 8) IntKind.u64.bits = 8 from rfl]
        omega
      · rw [hsn, wrapU64]; omega
    · have ho : ¬ i % 2 = 0 := by simp at ho; omega
      rw [if_neg ho] at hsn
      refine ⟨by omega, _, byteAt hc, (b[i].toNat : Int), by rw [wrapU64]; omega, _, ?_, _, incI (by omega), ⟨rfl, i + 1, hc, rfl⟩, by simp only [numAt]; omega⟩
      rw [hsn, wrapU64]; omega
  · have hc : i = b.size := by simp at hc; omega
    subst hc
    rw [take_size] at hle ⊢
    refine (folded_36 _ (by omega) _).mono ?_
    rintro e h' ⟨rfl, r, hr, rfl⟩
    refine ⟨_, rfl, ((65535 - r : Nat) : Int), ?_, rfl, _, ⟨r, hr, rfl⟩, rfl⟩
    have := hr.1
    rw [notI16] <;> omega

/-- turnoutref02.Ones -/
theorem ones_24 (b : ByteArray) (hb : b.size ≤ 140737488355328) (h : Hp) : CallsH Tryd.prog 24 #[.string b] h fun e h' => h' = h ∧ ∃ s : Nat, OnesOk (bl b) s ∧ e = .returned (.int .u16 (s : Int)) := by
  refine V24 b h _ ⟨fun l hp => hp = h ∧ ∃ i : Nat, i ≤ b.size + 1 ∧ i % 2 = 0 ∧ l = [.int .i64 ((wsum 0 ((bl b).take (min i b.size)) : Nat) : Int), .int .i64 (i : Int)], fun l _ => (b.size + 2 - numAt l 1).toNat, ⟨rfl, 0, Nat.zero_le _, rfl, by rw [Nat.zero_min]; rfl⟩, ?_⟩
  rintro n x hp ⟨rfl, i, hi, he, hl⟩
  cases hl
  refine ⟨fun hc => ?_, fun hc => ?_⟩
  · have hc : i < b.size := by simp at hc; omega
    have hbt := b[i].toNat_lt
    have hsn := wsum_snoc hc
    have hle := wsum_take_le b i (by omega)
    rw [if_pos he] at hsn
    rw [Nat.min_eq_left (by omega)]
    refine ⟨by omega, _, byteAt hc, (b[i].toNat : Int), wrapI64 (by omega) (by omega), ((256 * b[i].toNat : Nat) : Int), by rw [wrapI64] <;> omega, ((wsum 0 ((bl b).take (i + 1)) : Nat) : Int), by rw [hsn, wrapI64] <;> omega, _, incI (by omega), fun h2 => ?_, fun h2 => ?_⟩
    · have h2 : i + 1 < b.size := by simp at h2; omega
      have hbt2 := b[i + 1].toNat_lt
      have hsn2 := wsum_snoc h2
      rw [if_neg (by omega)] at hsn2
      refine ⟨_, incI (by omega), by omega, _, byteAt h2, (b[i + 1].toNat : Int), wrapI64 (by omega) (by omega), ((wsum 0 ((bl b).take (i + 1 + 1)) : Nat) : Int), by rw [hsn2, wrapI64] <;> omega, ((i + 2 : Nat) : Int), wrapI64 (by omega) (by omega), ⟨rfl, i + 2, by omega, by omega, ?_⟩, by simp only [numAt]; omega⟩
      rw [Nat.min_eq_left (by omega)]
    · have h2 : i + 1 = b.size := by simp at h2; omega
      refine ⟨((i + 2 : Nat) : Int), wrapI64 (by omega) (by omega), ⟨rfl, i + 2, by omega, by omega, ?_⟩, by simp only [numAt]; omega⟩
      rw [Nat.min_eq_right (by omega), h2]
  · have hc : b.size ≤ i := by simp at hc; omega
    rw [Nat.min_eq_right hc, take_size]
    have hle := wsum_take_le b b.size (Nat.le_refl _)
    rw [take_size] at hle
    refine (folded_37 _ (by omega) _).mono ?_
    rintro e h' ⟨rfl, r, hr, rfl⟩
    have := hr.1
    refine ⟨_, rfl, ((65535 - r : Nat) : Int), by rw [wrapI64] <;> omega, _, by rw [wrapU16]; exact Int.emod_eq_of_lt (by omega) (by omega), rfl, _, ⟨r, hr, rfl⟩, rfl⟩

/-- sums.Patch -/
theorem patch_25 (s o f : Nat) (hs : s < 65536) (ho : o < 65536) (hf : f < 65536) (h : Hp) : CallsH Tryd.prog 25 #[.int .u16 (s : Int), .int .u16 (o : Int), .int .u16 (f : Int)] h fun e h' => h' = h ∧ ∃ r : Nat, FoldOk (65535 - s + (65535 - o) + f) r ∧ e = .returned (.int .u16 ((65535 - r : Nat) : Int)) := by
  refine V25 _ _ _ h _ ⟨_, notI16 (by omega) (by omega), ((65535 - s : Nat) : Int), by rw [wrapU64]; omega, _, notI16 (by omega) (by omega), ((65535 - o : Nat) : Int), by rw [wrapU64]; omega, ((65535 - s + (65535 - o) : Nat) : Int), by rw [wrapU64]; omega, (f : Int), by rw [wrapU64]; omega, ((65535 - s + (65535 - o) + f : Nat) : Int), by rw [wrapU64]; omega, ?_⟩
  refine (folded_36 _ (by omega) _).mono ?_
  rintro e h' ⟨rfl, r, hr, rfl⟩
  have := hr.1
  exact ⟨_, rfl, ((65535 - r : Nat) : Int), by rw [notI16] <;> omega, rfl, r, hr, rfl⟩

/-- turnoutref02.Patch -/
theorem patch_26 (s o f : Nat) (hs : s < 65536) (ho : o < 65536) (hf : f < 65536) (h : Hp) : CallsH Tryd.prog 26 #[.int .u16 (s : Int), .int .u16 (o : Int), .int .u16 (f : Int)] h fun e h' => h' = h ∧ ∃ r : Nat, FoldOk (65535 - s + (65535 - o) + f) r ∧ e = .returned (.int .u16 ((65535 - r : Nat) : Int)) := by
  refine V26 _ _ _ h _ ⟨(s : Int), by rw [wrapI64] <;> omega, ((65535 - s : Nat) : Int), by rw [wrapI64] <;> omega, ((65535 - s + 65535 : Nat) : Int), by rw [wrapI64] <;> omega, (o : Int), by rw [wrapI64] <;> omega, ((65535 - s + (65535 - o) : Nat) : Int), by rw [wrapI64] <;> omega, (f : Int), by rw [wrapI64] <;> omega, ((65535 - s + (65535 - o) + f : Nat) : Int), by rw [wrapI64] <;> omega, ?_⟩
  refine (folded_37 _ (by omega) _).mono ?_
  rintro e h' ⟨rfl, r, hr, rfl⟩
  have := hr.1
  exact ⟨_, rfl, ((65535 - r : Nat) : Int), by rw [wrapI64] <;> omega, _, by rw [wrapU16]; exact Int.emod_eq_of_lt (by omega) (by omega), rfl, r, hr, rfl⟩

theorem OnesOk.uniq {l : List UInt8} {s t : Nat} (h : OnesOk l s) (k : OnesOk l t) : s = t := by
  obtain ⟨r, hr, rfl⟩ := h
  obtain ⟨q, hq, rfl⟩ := k
  rw [hr.uniq hq]

/-- turnoutlaw02.SumsOnes -/
theorem law_7 (b : ByteArray) (hb' : b.size ≤ 140737488351232) (s o f : Nat) (hs : s < 65536) (ho : o < 65536) (hf : f < 65536) (h : Hp) (hh : Halves h) :
    CallsH Tryd.prog 7 #[.string b, .agg #[.int .u16 (s : Int), .int .u16 (o : Int), .int .u16 (f : Int)]] h (RetX (.bool true) h) := by
  have hb : b.size ≤ 140737488355328 := by omega
  refine V7 _ _ _ _ h _ ?_
  intro q hp hq hhp
  have hx : Ext h hp := by rw [hhp]; exact Ext.push _ _
  have hcell : hp[q]? = some (.cells #[.int .u16 (s : Int), .int .u16 (o : Int), .int .u16 (f : Int)] 42) := by rw [hhp, hq]; exact push_last
  refine (live_12 hp (hh.ext hx)).mono ?_
  rintro e h1 ⟨rfl, hx1⟩
  have hcell1 : h1[q]? = some (.cells #[.int .u16 (s : Int), .int .u16 (o : Int), .int .u16 (f : Int)] 42) := (hx1.old q (Array.getElem?_eq_some_iff.1 hcell).1).trans hcell
  refine ⟨_, rfl, (ones_23 b hb h1).mono ?_⟩
  rintro e h2 ⟨rfl, s1, hs1, rfl⟩
  refine ⟨_, rfl, (ones_24 b hb h2).mono ?_⟩
  rintro e h3 ⟨rfl, s2, hs2, rfl⟩
  obtain rfl := hs1.uniq hs2
  refine ⟨_, rfl, _, cellsAt_one (cellH_at hcell1), _, cellsAt_one (cellH_at hcell1), _, cellsAt_one (cellH_at hcell1), (patch_25 s o f hs ho hf h3).mono ?_⟩
  rintro e h4 ⟨rfl, r1, hr1, rfl⟩
  refine ⟨_, rfl, _, cellsAt_one (cellH_at hcell1), _, cellsAt_one (cellH_at hcell1), _, cellsAt_one (cellH_at hcell1), (patch_26 s o f hs ho hf h4).mono ?_⟩
  rintro e h5 ⟨rfl, r2, hr2, rfl⟩
  obtain rfl := hr1.uniq hr2
  exact ⟨_, rfl, true, ⟨fun _ => ⟨fun _ => ⟨rfl, by simp⟩, fun hf => (by simp at hf)⟩, fun hf => (by cases hf)⟩, rfl, hx.trans hx1⟩

end Go.Vc
