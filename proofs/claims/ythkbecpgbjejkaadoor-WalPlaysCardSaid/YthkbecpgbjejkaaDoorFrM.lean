/- A frame's bytes, in plain Lean: numbers as bytes, the highest first. -/
set_option maxRecDepth 10000
namespace Go.Vc

/-- A number in so many bytes, the highest first. -/
def beL : Nat → Nat → List UInt8
  | 0, _ => []
  | k + 1, n => beL k (n / 256) ++ [UInt8.ofNat n]

/-- What bytes say. -/
def numL (l : List UInt8) : Nat := l.foldl (fun n c => 256 * n + c.toNat) 0

theorem beL_length : ∀ (k n : Nat), (beL k n).length = k
  | 0, _ => rfl
  | k + 1, n => by rw [beL, List.length_append, beL_length k]; rfl

theorem numL_snoc (l : List UInt8) (c : UInt8) : numL (l ++ [c]) = 256 * numL l + c.toNat := by
  unfold numL; rw [List.foldl_append]; rfl

theorem u8_nat (n : Nat) : (UInt8.ofNat n).toNat = n % 256 := by simp

theorem snoc_ind {α : Type} {p : List α → Prop} (h0 : p []) (h1 : ∀ l a, p l → p (l ++ [a])) : ∀ l, p l := by
  intro l
  rw [← List.reverse_reverse l]
  generalize l.reverse = r
  induction r with
  | nil => exact h0
  | cons a r ih => rw [List.reverse_cons]; exact h1 _ _ ih

theorem numL_lt : ∀ l : List UInt8, numL l < 256 ^ l.length := by
  refine snoc_ind (by simp [numL]) fun l c ih => ?_
  rw [numL_snoc, List.length_append, List.length_singleton, Nat.pow_succ]
  have := c.toNat_lt
  have h2 : c.toNat < 256 := this
  generalize 256 ^ l.length = m at ih ⊢
  omega

theorem numL_beL : ∀ (k n : Nat), numL (beL k n) = n % 256 ^ k
  | 0, n => by simp [beL, numL, Nat.mod_one]
  | k + 1, n => by
    rw [beL, numL_snoc, numL_beL k, u8_nat, Nat.pow_succ, Nat.mul_comm (256 ^ k) 256, Nat.mod_mul]
    omega

theorem beL_numL : ∀ l : List UInt8, beL l.length (numL l) = l := by
  refine snoc_ind rfl fun l c ih => ?_
  rw [List.length_append, List.length_singleton, beL, numL_snoc]
  have h2 : c.toNat < 256 := c.toNat_lt
  have h3 : (256 * numL l + c.toNat) / 256 = numL l := by omega
  rw [h3, ih]
  congr 2
  apply UInt8.toNat_inj.1
  rw [u8_nat]; omega

theorem beL_mod (k n : Nat) : beL k (n % 256 ^ k) = beL k n := by
  have h1 := beL_numL (beL k n)
  rw [beL_length, numL_beL] at h1
  exact h1

theorem numL_take {l : List UInt8} {i : Nat} (hi : i < l.length) : numL (l.take (i + 1)) = 256 * numL (l.take i) + l[i].toNat := by
  rw [List.take_add_one, List.getElem?_eq_getElem hi]
  exact numL_snoc _ _

/-- The last bytes of a number, so many. -/
theorem beL_drop : ∀ (k j n : Nat), j ≤ k → (beL k n).drop (k - j) = beL j n
  | k, 0, n, _ => by simp [beL, beL_length]
  | 0, j + 1, n, h => by omega
  | k + 1, j + 1, n, h => by
    rw [beL, beL, List.drop_append_of_le_length (by rw [beL_length]; omega), show k + 1 - (j + 1) = k - j by omega, beL_drop k j (n / 256) (by omega)]

theorem beL_take : ∀ (k j n : Nat), j ≤ k → (beL k n).take j = beL j (n / 256 ^ (k - j))
  | k, 0, n, _ => by simp [beL]
  | 0, j + 1, n, h => by omega
  | k + 1, j + 1, n, h => by
    by_cases e : j = k
    · subst e
      rw [Nat.sub_self, Nat.pow_zero, Nat.div_one, List.take_of_length_le (by rw [beL_length]; exact Nat.le_refl _)]
    · rw [beL, List.take_append_of_le_length (by rw [beL_length]; omega), beL_take k (j + 1) (n / 256) (by omega), Nat.div_div_eq_div_mul, show k + 1 - (j + 1) = k - (j + 1) + 1 by omega, Nat.pow_succ, Nat.mul_comm 256]

end Go.Vc
