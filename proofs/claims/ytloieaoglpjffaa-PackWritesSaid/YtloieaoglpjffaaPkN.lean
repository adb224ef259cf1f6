/- What is read, written again, is the bytes: plain Lean. -/
import Derived.Test.YtloieaoglpjffaaPkM
set_option maxRecDepth 10000
namespace Go.Vc
open Go

theorem pow128_le {i : Nat} (h : i ≤ 9) : 128 ^ i ≤ 9223372036854775808 := by
  have : 128 ^ i ≤ 128 ^ 9 := Nat.pow_le_pow_right (by decide) h
  exact this

/-- A number that is read is the one whose bytes these are. -/
theorem numG_forms (most : Nat) : ∀ (f i acc : Nat) (l : List UInt8), i + f = 10 → acc < 128 ^ i → (numG most f i acc l).1 = 0 →
    ∃ m j, (numG most f i acc l).2.2 = i + j ∧ j ≤ l.length ∧ l.take j = uintG (f - 1) m ∧ (numG most f i acc l).2.1 = acc + m * 128 ^ i ∧ (0 < i → 0 < m) ∧ m < 128 ^ f
  | 0, i, acc, l, _, _, h => by rw [numG] at h; exact absurd h (by decide)
  | f + 1, i, acc, [], _, _, h => by rw [numG] at h; exact absurd h (by decide)
  | f + 1, i, acc, c :: l, hf, ha, h => by
    have hc : c.toNat < 256 := c.toNat_lt
    have hi9 : i ≤ 9 := by omega
    have hp := pow128_le hi9
    have hpos : 0 < 128 ^ i := Nat.pow_pos (by decide)
    rw [numG] at h ⊢
    by_cases h128 : 128 ≤ c.toNat
    · rw [if_pos h128] at h ⊢
      have hf1 : 1 ≤ f := by
        rcases Nat.eq_zero_or_pos f with h0 | h0
        · rw [h0, numG] at h; exact absurd h (by decide)
        · exact h0
      have hi8 : i + 1 ≤ 9 := by omega
      have hp1 := pow128_le hi8
      have hle : c.toNat % 128 * 128 ^ i ≤ 127 * 128 ^ i := Nat.mul_le_mul_right _ (by omega)
      have hlt : acc + c.toNat % 128 * 128 ^ i < 128 ^ (i + 1) := by rw [Nat.pow_succ]; omega
      rw [Nat.mod_eq_of_lt (show acc + c.toNat % 128 * 128 ^ i < 18446744073709551616 by omega)] at h ⊢
      obtain ⟨m, j, h1, h2, h3, h4, h5, h6⟩ := numG_forms most f (i + 1) _ l (by omega) hlt h
      have h5 := h5 (by omega)
      refine ⟨c.toNat % 128 + 128 * m, j + 1, by rw [h1]; omega, by simp; omega, ?_, ?_, fun _ => by omega, by rw [Nat.pow_succ]; omega⟩
      · obtain ⟨g, rfl⟩ : ∃ g, f = g + 1 := ⟨f - 1, by omega⟩
        simp only [Nat.add_sub_cancel] at h3 ⊢
        rw [List.take_succ_cons, h3, uintG, if_neg (by omega)]
        have e1 : (c.toNat % 128 + 128 * m) / 128 = m := by omega
        have e2 : UInt8.ofNat ((c.toNat % 128 + 128 * m) % 128 + 128) = c := by
          apply UInt8.toNat_inj.1
          rw [u8_nat]; omega
        rw [e1, e2]
      · rw [h4, Nat.pow_succ, Nat.add_mul, Nat.mul_comm 128 m, Nat.mul_assoc, Nat.mul_comm 128, Nat.add_assoc]
    · rw [if_neg h128] at h ⊢
      by_cases h2 : (c.toNat = 0 ∧ 0 < i) ∨ (i = 9 ∧ 1 < c.toNat)
      · rw [if_pos h2] at h; exact absurd h (by decide)
      · rw [if_neg h2] at h ⊢
        have hm : c.toNat % 128 = c.toNat := Nat.mod_eq_of_lt (by omega)
        rw [hm] at h ⊢
        have hlt : acc + c.toNat * 128 ^ i < 18446744073709551616 := by
          by_cases h9 : i = 9
          · subst h9
            have : c.toNat ≤ 1 := by omega
            have : c.toNat * 128 ^ 9 ≤ 1 * 128 ^ 9 := Nat.mul_le_mul_right _ this
            omega
          · have hp1 := pow128_le (show i + 1 ≤ 9 by omega)
            have hle : c.toNat * 128 ^ i ≤ 127 * 128 ^ i := Nat.mul_le_mul_right _ (by omega)
            rw [Nat.pow_succ] at hp1
            omega
        rw [Nat.mod_eq_of_lt hlt] at h ⊢
        by_cases h3 : most < acc + c.toNat * 128 ^ i
        · rw [if_pos h3] at h; exact absurd h (by decide)
        · rw [if_neg h3]
          refine ⟨c.toNat, 1, rfl, by simp, ?_, rfl, fun h0 => by omega, ?_⟩
          · rw [uintG_small _ (by omega)]
            have : UInt8.ofNat c.toNat = c := by simp
            rw [this]; rfl
          · rw [Nat.pow_succ]
            have : 0 < 128 ^ f := Nat.pow_pos (by decide)
            have : 1 * 128 ≤ 128 ^ f * 128 := Nat.mul_le_mul_right _ this
            omega

theorem numG_top {most : Nat} {l : List UInt8} (h : (numG most 10 0 0 l).1 = 0) : (numG most 10 0 0 l).2.2 ≤ l.length ∧ l.take (numG most 10 0 0 l).2.2 = uintL (numG most 10 0 0 l).2.1 := by
  obtain ⟨m, j, h1, h2, h3, h4, _, _⟩ := numG_forms most 10 0 0 l rfl (by decide) h
  rw [h1, h4]
  simp only [Nat.zero_add, Nat.pow_zero, Nat.mul_one]
  exact ⟨h2, h3⟩

/-- What is read: a number, a text, a value. -/
structure Got where
  n : Nat
  s : List UInt8
  a : Nat

def Got.no : Got := ⟨0, [], 0⟩

/-- A thing is read; it is written again. -/
def rdStep (kind : Int) (most : Nat) (k : Int) (r : Rd) : Got × Rd :=
  if kind = 1 then (⟨(r.uint most).1, [], 0⟩, (r.uint most).2) else if kind = 2 then (⟨(r.fixed k).1, [], 0⟩, (r.fixed k).2) else if kind = 3 then (⟨0, (r.text k).1, 0⟩, (r.text k).2)
  else if kind = 4 then (⟨0, [], (r.bits k).1⟩, (r.bits k).2) else if kind = 5 then (⟨0, (r.raw k).1, 0⟩, (r.raw k).2) else (Got.no, r)
def wrStep (kind : Int) (k : Int) (g : Got) (w : Wr) : Wr :=
  if kind = 1 then w.uint g.n else if kind = 2 then w.fixed g.n k else if kind = 3 then w.text g.s else if kind = 4 then w.bits g.a k else if kind = 5 then w.raw g.s else w

theorem forms_law_step (kind : Int) (most : Nat) (k : Int) {r : Rd} (h0 : r.e = 0) :
    (∃ c, c ≠ 0 ∧ rdStep kind most k r = (Got.no, r.bad c)) ∨ (∃ j g, j ≤ r.left.length ∧ rdStep kind most k r = (g, r.to j) ∧ (∀ L, wrStep kind k g ⟨L, 0⟩ = ⟨L ++ r.left.take j, 0⟩) ∧ g.n < 18446744073709551616 ∧ g.s.length ≤ r.left.length ∧ g.a < 2 ^ 128) := by
  unfold rdStep wrStep
  have z0 : ¬ (r.e ≠ 0) := by omega
  split
  · unfold Rd.uint
    rw [if_neg z0]
    by_cases hg : (numG most 10 0 0 r.left).1 = 0
    · rw [if_neg (by simpa using hg)]
      obtain ⟨h1, h2⟩ := numG_top hg
      refine .inr ⟨_, _, h1, rfl, fun L => ?_, ?_, Nat.zero_le _, by show (0 : Nat) < _; decide⟩
      · show Wr.uint ⟨L, 0⟩ _ = _
        unfold Wr.uint
        rw [if_pos rfl, h2]
      · show (numG most 10 0 0 r.left).2.1 < _
        obtain ⟨m, j, _, _, _, h4, _, h6⟩ := numG_forms most 10 0 0 r.left rfl (by decide) hg
        exact numG_small most 10 0 0 r.left
    · rw [if_pos hg]
      exact .inl ⟨_, hg, rfl⟩
  split
  · unfold Rd.fixed
    rw [if_neg z0]
    by_cases h1 : k < 1 ∨ 8 < k
    · rw [if_pos h1]; exact .inl ⟨1, by decide, rfl⟩
    · rw [if_neg h1]
      by_cases h2 : (r.left.length : Int) < k
      · rw [if_pos h2]; exact .inl ⟨3, by decide, rfl⟩
      · rw [if_neg h2]
        obtain ⟨m, rfl⟩ := Int.eq_ofNat_of_zero_le (show 0 ≤ k by omega)
        simp only [Int.toNat_natCast]
        have hl : (r.left.take m).length = m := by rw [List.length_take]; omega
        have hlt := numL_lt (r.left.take m)
        rw [hl] at hlt
        have h8 : 256 ^ m ≤ 256 ^ 8 := Nat.pow_le_pow_right (by decide) (by omega)
        refine .inr ⟨m, _, by omega, rfl, fun L => ?_, ?_, Nat.zero_le _, by show (0 : Nat) < _; decide⟩
        · show Wr.fixed ⟨L, 0⟩ _ _ = _
          unfold Wr.fixed
          rw [if_neg (by simp), if_neg h1, if_neg]
          · have := beL_numL (r.left.take m)
            rw [hl] at this
            rw [Int.toNat_natCast, this]
          · rintro ⟨_, hh⟩
            rw [Int.toNat_natCast, Nat.pow_mul] at hh
            exact hh (Nat.div_eq_of_lt hlt)
        · show numL (r.left.take m) < _
          have : (256 : Nat) ^ 8 = 18446744073709551616 := by decide
          omega
  split
  · unfold Rd.text
    rw [if_neg z0]
    by_cases h1 : k < 0
    · rw [if_pos h1]; exact .inl ⟨1, by decide, rfl⟩
    · rw [if_neg h1]
      by_cases hg : (numG k.toNat 10 0 0 r.left).1 = 0
      · rw [if_neg (by simpa using hg)]
        obtain ⟨g1, g2⟩ := numG_top hg
        by_cases h2 : r.left.length < (numG k.toNat 10 0 0 r.left).2.2 + (numG k.toNat 10 0 0 r.left).2.1
        · rw [if_pos h2]; exact .inl ⟨3, by decide, rfl⟩
        · rw [if_neg h2]
          obtain ⟨G, hG⟩ : ∃ G, G = numG k.toNat 10 0 0 r.left := ⟨_, rfl⟩
          rw [← hG] at g1 g2 h2 ⊢
          have hl : ((r.left.drop G.2.2).take G.2.1).length = G.2.1 := by rw [List.length_take, List.length_drop]; omega
          refine .inr ⟨_, _, Nat.le_of_not_lt h2, rfl, fun L => ?_, by show (0 : Nat) < _; decide, by show ((r.left.drop G.2.2).take G.2.1).length ≤ _; rw [hl]; omega, by show (0 : Nat) < _; decide⟩
          show Wr.text ⟨L, 0⟩ _ = _
          unfold Wr.text
          rw [if_pos rfl]
          simp only
          rw [hl, ← g2]
          congr 2
          rw [List.take_add]
      · rw [if_pos hg]; exact .inl ⟨_, hg, rfl⟩
  split
  · unfold Rd.bits
    rw [if_neg z0]
    by_cases hw : isW k = false
    · rw [if_pos hw]; exact .inl ⟨10, by decide, rfl⟩
    · rw [if_neg hw]
      have hwt : isW k = true := by simpa using hw
      obtain ⟨w0, w1⟩ := isW_iff.1 hwt
      by_cases h1 : r.left.length < (k.toNat + 7) / 8
      · rw [if_pos h1]; exact .inl ⟨3, by decide, rfl⟩
      · rw [if_neg h1]
        have hl : (r.left.take ((k.toNat + 7) / 8)).length = (k.toNat + 7) / 8 := by rw [List.length_take]; omega
        have hlt := numL_lt (r.left.take ((k.toNat + 7) / 8))
        rw [hl] at hlt
        have h16 : 256 ^ ((k.toNat + 7) / 8) ≤ 256 ^ 16 := Nat.pow_le_pow_right (by decide) (by omega)
        have ef : fromF (r.left.take ((k.toNat + 7) / 8)) k = if fitsN (numL (r.left.take ((k.toNat + 7) / 8))) k = false then (0, 11) else (numL (r.left.take ((k.toNat + 7) / 8)), 0) := by
          unfold fromF; rw [if_neg hw, if_neg (by rw [hl]; simp)]
        by_cases hf : fitsN (numL (r.left.take ((k.toNat + 7) / 8))) k = false
        · rw [if_pos hf] at ef
          rw [ef, if_pos (by decide)]
          exact .inl ⟨11, by decide, rfl⟩
        · rw [if_neg hf] at ef
          rw [ef, if_neg (by simp)]
          refine .inr ⟨_, _, Nat.le_of_not_lt h1, rfl, fun L => ?_, by show (0 : Nat) < _; decide, Nat.zero_le _, ?_⟩
          · show Wr.bits ⟨L, 0⟩ _ _ = _
            unfold Wr.bits
            have eb : bytesF (numL (r.left.take ((k.toNat + 7) / 8))) k = (r.left.take ((k.toNat + 7) / 8), 0) := by
              unfold bytesF
              rw [if_neg hw, if_neg hf]
              have := beL_numL (r.left.take ((k.toNat + 7) / 8))
              rw [hl] at this
              rw [this]
            rw [if_pos rfl, eb]
          · show numL (r.left.take ((k.toNat + 7) / 8)) < 2 ^ 128
            exact Nat.lt_of_lt_of_le hlt h16
  split
  · unfold Rd.raw
    rw [if_neg z0]
    by_cases h1 : k < 0
    · rw [if_pos h1]; exact .inl ⟨1, by decide, rfl⟩
    · rw [if_neg h1]
      by_cases h2 : (r.left.length : Int) < k
      · rw [if_pos h2]; exact .inl ⟨3, by decide, rfl⟩
      · rw [if_neg h2]
        refine .inr ⟨k.toNat, _, by omega, rfl, fun L => ?_, by show (0 : Nat) < _; decide, by show (r.left.take k.toNat).length ≤ _; rw [List.length_take]; omega, by show (0 : Nat) < _; decide⟩
        show Wr.raw ⟨L, 0⟩ _ = _
        unfold Wr.raw
        rw [if_pos rfl]
  · exact .inr ⟨0, Got.no, Nat.zero_le _, rfl, fun L => by simp, by decide, Nat.zero_le _, by decide⟩
where
  numG_small (most : Nat) : ∀ (f i n : Nat) (l : List UInt8), (numG most f i n l).2.1 < 18446744073709551616
  | 0, _, _, _ => by rw [numG]; decide
  | f + 1, _, _, [] => by rw [numG]; decide
  | f + 1, i, n, c :: l => by
    rw [numG]
    split
    · exact numG_small most f _ _ l
    · split
      · decide
      · split
        · decide
        · exact Nat.mod_lt _ (by decide)

end Go.Vc
