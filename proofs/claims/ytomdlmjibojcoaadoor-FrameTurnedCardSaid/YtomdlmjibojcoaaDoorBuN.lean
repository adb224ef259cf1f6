/- Bits turned one by one. -/
import Derived.Test.YtomdlmjibojcoaaDoorBuM
set_option maxRecDepth 10000
namespace Go.Vc

theorem bytesN_get : ∀ (n v j : Nat), j < n → (bytesN v n)[j]? = some (UInt8.ofNat (v / 256 ^ j))
  | 0, _, _, h => by omega
  | n + 1, v, 0, _ => by simp [bytesN]
  | n + 1, v, j + 1, h => by
    rw [bytesN, List.getElem?_cons_succ, bytesN_get n (v / 256) j (by omega), Nat.div_div_eq_div_mul, Nat.pow_succ, Nat.mul_comm 256]

theorem bytesN_flip {v q n : Nat} (hv : v < 2 ^ q) (_ : q / 8 < n) : bytesN (v + 2 ^ q) n = (bytesN v n).set (q / 8) ((bytesN v n).getD (q / 8) 0 ^^^ UInt8.ofNat (2 ^ (q % 8))) := by
  have hl : ∀ v, (bytesN v n).length = n := fun v => bytesN_length v n
  have h256 : ∀ j, 256 ^ j = 2 ^ (8 * j) := fun j => by rw [show (256 : Nat) = 2 ^ 8 from rfl, ← Nat.pow_mul]
  apply List.ext_getElem?
  intro j
  rcases Nat.lt_or_ge j n with hj | hj
  · rw [bytesN_get n _ j hj]
    by_cases hjq : j = q / 8
    · subst hjq
      rw [List.getElem?_set_self (by rw [hl]; exact hj), List.getD_eq_getElem?_getD, bytesN_get n _ _ hj]
      congr 1
      show UInt8.ofNat _ = UInt8.ofNat _ ^^^ UInt8.ofNat _
      have hq' : q = 8 * (q / 8) + q % 8 := by omega
      have e1 : (v + 2 ^ q) / 256 ^ (q / 8) = v / 256 ^ (q / 8) + 2 ^ (q % 8) := by
        rw [h256]
        conv => lhs; rw [show 2 ^ q = 2 ^ (8 * (q / 8)) * 2 ^ (q % 8) by rw [← Nat.pow_add, ← hq']]
        rw [Nat.add_mul_div_left _ _ (Nat.two_pow_pos _)]
      have e2 : v / 256 ^ (q / 8) < 2 ^ (q % 8) := by
        rw [h256, Nat.div_lt_iff_lt_mul (Nat.two_pow_pos _), ← Nat.pow_add, Nat.add_comm, ← hq']
        exact hv
      rw [e1]
      generalize v / 256 ^ (q / 8) = x at e2
      have h8 : q % 8 < 8 := Nat.mod_lt _ (by decide)
      generalize q % 8 = r at e2 h8
      have hx : x < 128 := Nat.lt_of_lt_of_le e2 (show 2 ^ r ≤ 2 ^ 7 from Nat.pow_le_pow_right (by decide) (by omega))
      have key : ∀ r : Fin 8, ∀ x : Fin 128, x.val < 2 ^ r.val → UInt8.ofNat (x.val + 2 ^ r.val) = UInt8.ofNat x.val ^^^ UInt8.ofNat (2 ^ r.val) := by decide +kernel
      exact key ⟨r, h8⟩ ⟨x, hx⟩ e2
    · rw [List.getElem?_set_ne (Ne.symm hjq), bytesN_get n _ j hj]
      congr 1
      apply UInt8.toNat_inj.1
      rw [UInt8.toNat_ofNat', UInt8.toNat_ofNat']
      rcases Nat.lt_or_ge j (q / 8) with h | h
      · have : 2 ^ q = 256 ^ j * (256 * 2 ^ (q - 8 * (j + 1))) := by
          rw [h256, show (256 : Nat) = 2 ^ 8 from rfl, ← Nat.pow_add, ← Nat.pow_add]; congr 1; omega
        rw [this, Nat.add_mul_div_left _ _ (Nat.pow_pos (by decide)), Nat.add_mul_mod_self_left]
      · have hb : 2 ^ (q + 1) ≤ 256 ^ j := by rw [h256]; exact Nat.pow_le_pow_right (by decide) (by omega)
        rw [Nat.pow_succ] at hb
        rw [Nat.div_eq_of_lt (by omega), Nat.div_eq_of_lt (by omega)]
  · rw [List.getElem?_eq_none (by rw [hl]; exact hj), List.getElem?_eq_none (by rw [List.length_set, hl]; exact hj)]

/-- The bits in the other order, the first so many of them. -/
def mk32 (bits : Nat) : Nat → Nat
  | 0 => 0
  | i + 1 => mk32 bits i + (if bits / 2 ^ (31 - i) % 2 = 1 then 2 ^ i else 0)

theorem mk32_lt (bits : Nat) : ∀ i, mk32 bits i < 2 ^ i
  | 0 => by simp [mk32]
  | i + 1 => by
    have := mk32_lt bits i
    rw [mk32, Nat.pow_succ]
    split <;> omega

theorem mk32_mono (bits : Nat) {i j : Nat} (h : i ≤ j) : mk32 bits i ≤ mk32 bits j := by
  induction j with
  | zero => rw [show i = 0 by omega]; exact Nat.le_refl _
  | succ j ih =>
    rcases Nat.eq_or_lt_of_le h with rfl | h
    · exact Nat.le_refl _
    · exact Nat.le_trans (ih (by omega)) (by rw [mk32]; omega)

theorem mk32_pos {bits : Nat} (h0 : bits ≠ 0) (h : bits < 2 ^ 32) : 0 < mk32 bits 32 := by
  obtain ⟨k, hk⟩ := Nat.exists_testBit_of_ne_zero h0
  have hk32 : k < 32 := by
    rcases Nat.lt_or_ge k 32 with h1 | h1
    · exact h1
    · rw [Nat.testBit_lt_two_pow (Nat.lt_of_lt_of_le h (Nat.pow_le_pow_right (by decide) h1))] at hk; cases hk
  have h1 : bits / 2 ^ (31 - (31 - k)) % 2 = 1 := by
    rw [show 31 - (31 - k) = k by omega]
    rw [Nat.testBit_eq_decide_div_mod_eq] at hk
    exact of_decide_eq_true hk
  have h2 := mk32_mono bits (show 31 - k + 1 ≤ 32 by omega)
  rw [mk32, if_pos h1] at h2
  have := Nat.two_pow_pos (31 - k)
  omega

def turnD (bits place i : Nat) : List UInt8 := List.replicate (place / 8) 0 ++ bytesN (mk32 bits i * 2 ^ (place % 8)) (512 - place / 8)

theorem turnD_length {bits place i : Nat} (h : place ≤ 4056) : (turnD bits place i).length = 512 := by
  unfold turnD; rw [List.length_append, List.length_replicate, bytesN_length]; omega

theorem turnD_zero {bits place : Nat} (h : place ≤ 4056) : turnD bits place 0 = List.replicate 512 0 := by
  unfold turnD; rw [mk32, Nat.zero_mul, bytesN_zero, List.replicate_append_replicate]; congr 1; omega

theorem turnD_no {bits place i : Nat} (h : ¬ bits / 2 ^ (31 - i) % 2 = 1) : turnD bits place (i + 1) = turnD bits place i := by
  unfold turnD; rw [mk32, if_neg h, Nat.add_zero]

theorem turnD_yes {bits place i : Nat} (hp : place ≤ 4056) (hi : i < 32) (h : bits / 2 ^ (31 - i) % 2 = 1) :
    turnD bits place (i + 1) = (turnD bits place i).set ((place + i) / 8) ((turnD bits place i).getD ((place + i) / 8) 0 ^^^ UInt8.ofNat (2 ^ ((place + i) % 8))) := by
  unfold turnD
  have e1 : (place + i) / 8 = place / 8 + (place % 8 + i) / 8 := by omega
  have e2 : (place + i) % 8 = (place % 8 + i) % 8 := by omega
  have hv : mk32 bits i * 2 ^ (place % 8) < 2 ^ (place % 8 + i) := by
    rw [Nat.pow_add, Nat.mul_comm]; exact (Nat.mul_lt_mul_left (Nat.two_pow_pos _)).2 (mk32_lt bits i)
  rw [mk32, if_pos h, Nat.add_mul, ← Nat.pow_add, Nat.add_comm i, bytesN_flip hv (by omega), e1, e2]
  rw [List.set_append_right _ _ (by rw [List.length_replicate]; omega), List.length_replicate, Nat.add_sub_cancel_left, List.getD_eq_getElem?_getD (l := _ ++ _), List.getElem?_append_right (by rw [List.length_replicate]; omega), List.length_replicate, Nat.add_sub_cancel_left, ← List.getD_eq_getElem?_getD]

theorem turnD_end {bits place : Nat} (h0 : bits ≠ 0) (h : bits < 2 ^ 32) (hp8 : 8 ≤ place) (hp : place ≤ 4056) :
    ∃ D e : List UInt8, turnD bits place 32 = 0 :: (D ++ (e ++ [0])) ∧ D.length = 506 ∧ e.length = 4 ∧ takesB 0#32 (D ++ e) ≠ 0#32 := by
  obtain ⟨a, ha⟩ : ∃ a, a = place / 8 := ⟨_, rfl⟩
  obtain ⟨s, hs⟩ : ∃ s, s = place % 8 := ⟨_, rfl⟩
  obtain ⟨V, hV⟩ : ∃ V, V = mk32 bits 32 * 2 ^ s := ⟨_, rfl⟩
  have hlt : V < 2 ^ (32 + s) := by
    rw [hV, Nat.pow_add]; exact (Nat.mul_lt_mul_right (Nat.two_pow_pos _)).2 (mk32_lt bits 32)
  have h256 : ∀ j, 256 ^ j = 2 ^ (8 * j) := fun j => by rw [show (256 : Nat) = 2 ^ 8 from rfl, ← Nat.pow_mul]
  have hz : V / 256 ^ (511 - a) = 0 := by
    apply Nat.div_eq_of_lt
    rw [h256]
    exact Nat.lt_of_lt_of_le hlt (Nat.pow_le_pow_right (by decide) (by omega))
  have e1 : bytesN V (512 - a) = bytesN V (511 - a) ++ [0] := by
    rw [show 512 - a = 511 - a + 1 by omega, bytesN_add, hz]; rfl
  obtain ⟨G, hG⟩ : ∃ G, G = List.replicate (a - 1) 0 ++ bytesN V (511 - a) := ⟨_, rfl⟩
  have hGl : G.length = 510 := by rw [hG, List.length_append, List.length_replicate, bytesN_length]; omega
  refine ⟨G.take 506, G.drop 506, ?_, by rw [List.length_take]; omega, by rw [List.length_drop]; omega, ?_⟩
  · rw [← List.append_assoc, List.take_append_drop]
    unfold turnD
    rw [← ha, ← hs, ← hV, e1, hG, show a = (a - 1) + 1 by omega, List.replicate_succ, Nat.add_sub_cancel, List.append_assoc]
    rfl
  · rw [List.take_append_drop, hG, takes_zeros_ahead]
    intro hc
    have h1 := (takes_zeros_behind (bytesN V (511 - a)) 1).2 hc
    have e2 : bytesN V (511 - a) ++ List.replicate 1 0 = bytesN V 5 ++ List.replicate (507 - a) 0 := by
      show bytesN V (511 - a) ++ [0] = _
      rw [← e1, show 512 - a = 5 + (507 - a) by omega, bytesN_add, Nat.div_eq_of_lt (by rw [h256]; exact Nat.lt_of_lt_of_le hlt (Nat.pow_le_pow_right (by decide) (by omega))), bytesN_zero]
    rw [e2, takes_zeros_behind] at h1
    have hm : (BitVec.ofNat 32 (mk32 bits 32)).toNat = mk32 bits 32 := by rw [BitVec.toNat_ofNat]; exact Nat.mod_eq_of_lt (mk32_lt bits 32)
    have hb := burst_five (BitVec.ofNat 32 (mk32 bits 32)) s (by omega)
    rw [hm, ← hV, h1] at hb
    have h2 := iter_eq_zero.1 hb.symm
    have h3 := congrArg BitVec.toNat h2
    rw [hm] at h3
    have h4 := mk32_pos h0 h
    have : (0#32 : W32).toNat = 0 := rfl
    omega

end Go.Vc
