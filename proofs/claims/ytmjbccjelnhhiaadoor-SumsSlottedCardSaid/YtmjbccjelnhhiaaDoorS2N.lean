/- The plain law of the cyclic sum: turns done many times; joined, led, apart. -/
import Derived.Test.YtmjbccjelnhhiaaDoorS2I
set_option maxRecDepth 10000
namespace Go.Vc

/-- The low bits of a word. -/
def lowK (r : W32) : Nat → W32
  | 0 => 0#32
  | k + 1 => lowK r k ^^^ (bif r.getLsbD k then 1#32 <<< k else 0#32)

theorem lowK_bit (r : W32) (k i : Nat) (hi : i < 32) (hk : k ≤ 32) : (lowK r k).getLsbD i = (decide (i < k) && r.getLsbD i) := by
  induction k with
  | zero => simp [lowK]
  | succ k ih =>
    rw [lowK, BitVec.getLsbD_xor, ih (by omega)]
    have h1 : (bif r.getLsbD k then 1#32 <<< k else 0#32).getLsbD i = (r.getLsbD k && decide (i = k)) := by
      cases r.getLsbD k
      · simp
      · rw [cond_true, BitVec.getLsbD_shiftLeft, decide_eq_true hi, Bool.true_and, Bool.true_and]
        by_cases h : i = k
        · subst h; simp
        · rcases Nat.lt_or_ge i k with h2 | h2
          · simp [h2, h]
          · obtain ⟨j, hj⟩ : ∃ j, i - k = j + 1 := ⟨i - k - 1, by omega⟩
            rw [hj, BitVec.getLsbD_one]
            simp [h]
    rw [h1]
    by_cases h : i = k
    · subst h; simp
    · rw [decide_eq_false h, Bool.and_false, Bool.xor_false]
      congr 1
      apply decide_eq_decide.2
      omega

theorem lowK_all (r : W32) : lowK r 32 = r := by
  apply BitVec.eq_of_getLsbD_eq
  intro i hi
  rw [lowK_bit r 32 i hi (Nat.le_refl _), decide_eq_true hi, Bool.true_and]

/-- The table of a map that goes with xor. -/
def tab (g : W32 → W32) : List W32 := (List.range 32).map fun i => g (1#32 <<< i)

theorem tab_at (g : W32 → W32) {k : Nat} (hk : k < 32) : (tab g).getD k 0#32 = g (1#32 <<< k) := by
  simp [tab, List.getD, hk]

theorem onK_tab {g : W32 → W32} (hg : Lin g) (r : W32) : ∀ k, k ≤ 32 → onK (tab g) r k = g (lowK r k) := by
  intro k
  induction k with
  | zero => intro _; rw [onK, lowK, hg.zero]
  | succ k ih =>
    intro hk
    rw [onK, lowK, ih (by omega), hg]
    congr 1
    cases r.getLsbD k
    · rw [cond_false, cond_false, hg.zero]
    · rw [cond_true, cond_true, tab_at g (by omega)]

theorem onB_tab {g : W32 → W32} (hg : Lin g) (r : W32) : onB (tab g) r = g r := by
  rw [onB, onK_tab hg r 32 (Nat.le_refl _), lowK_all]

theorem Lin.comp {f g : W32 → W32} (hf : Lin f) (hg : Lin g) : Lin (fun x => f (g x)) := fun a b => by
  show f (g (a ^^^ b)) = _
  rw [hg, hf]

theorem twiceB_tab {g : W32 → W32} (hg : Lin g) : twiceB (tab g) = tab (fun x => g (g x)) := by
  rw [twiceB]
  conv => lhs; arg 2; rw [tab]
  rw [tab, List.map_map]
  apply List.map_congr_left
  intro i _
  exact onB_tab hg _

theorem iter_two (g : W32 → W32) (n : Nat) (r : W32) : iter (fun x => g (g x)) n r = iter g (2 * n) r := by
  induction n generalizing r with
  | zero => rfl
  | succ n ih => rw [show 2 * (n + 1) = 2 * n + 1 + 1 by omega]; simp only [iter]; exact ih _

theorem timesB_tab : ∀ (n : Nat) {g : W32 → W32}, Lin g → ∀ r, timesB n (tab g) r = iter g n r := by
  intro n
  induction n using Nat.strongRecOn with
  | ind n ih =>
    intro g hg r
    rcases Nat.eq_zero_or_pos n with rfl | h
    · rw [timesB_zero]; rfl
    · rw [timesB_pos h, twiceB_tab hg, ih (n / 2) (by omega) (hg.comp hg), iter_two]
      split
      · rename_i ho
        rw [onB_tab hg]
        conv => rhs; rw [show n = 2 * (n / 2) + 1 by omega]
        rfl
      · rename_i he
        conv => rhs; rw [show n = 2 * (n / 2) by omega]

theorem iter_mul (f : W32 → W32) (k n : Nat) (r : W32) : iter (iter f k) n r = iter f (k * n) r := by
  induction n generalizing r with
  | zero => rfl
  | succ n ih => show iter (iter f k) n (iter f k r) = _; rw [ih, Nat.mul_succ, Nat.add_comm (k * n) k, iter_add]

/-- What times answers. -/
theorem times_eight {f : W32 → W32} (hf : Lin f) (n : Nat) (r : W32) : timesB n (eightB f) r = iter f (8 * n) r := by
  rw [← iter_mul]
  exact timesB_tab n (hf.iter 8) r

/-! ## Bytes, xored -/

def xorL : List UInt8 → List UInt8 → List UInt8
  | a :: r, b :: s => (a ^^^ b) :: xorL r s
  | _, _ => []

theorem takeB_lin (a b : W32) (x y : UInt8) : takeB (a ^^^ b) (x ^^^ y) = takeB a x ^^^ takeB b y := by
  unfold takeB
  rw [← turn_lin.iter]
  congr 1
  rw [xor4, UInt8.toBitVec_xor, BitVec.setWidth_xor]

theorem takesB_lin : ∀ (x y : List UInt8) (a b : W32), x.length = y.length → takesB (a ^^^ b) (xorL x y) = takesB a x ^^^ takesB b y := by
  intro x
  induction x with
  | nil =>
    intro y a b h
    obtain rfl : y = [] := List.eq_nil_of_length_eq_zero h.symm
    rfl
  | cons c r ih =>
    intro y a b h
    match y, h with
    | d :: s, h =>
      show takesB (takeB (a ^^^ b) (c ^^^ d)) (xorL r s) = takesB (takeB a c) r ^^^ takesB (takeB b d) s
      rw [takeB_lin]
      exact ih s _ _ (by simpa using h)

theorem takesB_zeros (n : Nat) (r : W32) : takesB r (List.replicate n 0) = iter turnB (8 * n) r := by
  induction n generalizing r with
  | zero => rfl
  | succ n ih =>
    rw [List.replicate_succ, Nat.mul_succ, Nat.add_comm, iter_add]
    show takesB (takeB r 0) (List.replicate n 0) = _
    rw [ih]
    congr 1
    unfold takeB
    congr 1
    simp

theorem xorL_zeros (l : List UInt8) : xorL (List.replicate l.length 0) l = l := by
  induction l with
  | nil => rfl
  | cons c r ih => rw [List.length_cons, List.replicate_succ]; simp only [xorL, ih]; congr 1; simp

theorem takesB_split (r : W32) (l : List UInt8) : takesB r l = iter turnB (8 * l.length) r ^^^ takesB 0#32 l := by
  have := takesB_lin (List.replicate l.length 0) l r 0#32 (by simp)
  rw [xorL_zeros, BitVec.xor_zero, takesB_zeros] at this
  exact this

theorem not_xor (a : W32) : ~~~a = a ^^^ BitVec.allOnes 32 := by
  rw [BitVec.xor_comm, BitVec.allOnes_xor]

theorem xor_cancel (a b c : W32) : (a ^^^ b) ^^^ (c ^^^ b) = a ^^^ c := by
  rw [xor4, BitVec.xor_self, BitVec.xor_zero]

end Go.Vc
