/- What becomes of a sector over which frames were written: whole, or torn. -/
import Derived.Test.YtomdlmjibojcoaaDoorS5FrP
set_option maxRecDepth 10000
namespace Go.Vc
open Go Go.Proofs

/-- The mark of the so manieth frame over some bytes. -/
def mkN (x : ByteArray) (a : Nat) : UInt8 := UInt8.ofNat (((bl x).getD 511 0).toNat + a)
def slF (x : ByteArray) (fs : List Frm) (j : Nat) : ByteArray := tx (sealL (fs.getD j Frm.no) (mkN x (j + 1)))
def pendL (x : ByteArray) (fs : List Frm) (i : Nat) : List (Nat × ByteArray) := (List.range i).map fun j => (1, slF x fs j)

theorem pendL_succ (x : ByteArray) (fs : List Frm) (i : Nat) : pendL x fs (i + 1) = pendL x fs i ++ [(1, slF x fs i)] := by
  unfold pendL; rw [List.range_succ, List.map_append]; rfl
theorem pendL_length (x : ByteArray) (fs : List Frm) (i : Nat) : (pendL x fs i).length = i := by simp [pendL]
theorem pendL_take (x : ByteArray) (fs : List Frm) {i K : Nat} (h : i ≤ K) : (pendL x fs K).take i = pendL x fs i := by
  unfold pendL; rw [← List.map_take, List.take_range, Nat.min_eq_left h]

def AllRight (fs : List Frm) : Prop := ∀ f ∈ fs, f.Right
theorem AllRight.at {fs : List Frm} (h : AllRight fs) {j : Nat} (hj : j < fs.length) : (fs.getD j Frm.no).Right := by
  rw [List.getD_eq_getElem?_getD, List.getElem?_eq_getElem hj]
  exact h _ (List.getElem_mem hj)

theorem slF_size {x : ByteArray} {fs : List Frm} (h : AllRight fs) {j : Nat} (hj : j < fs.length) : (slF x fs j).size = 512 := by
  unfold slF; rw [tx_size, sealL_length (h.at hj).b]
theorem slF_marks {x : ByteArray} {fs : List Frm} (h : AllRight fs) {j : Nat} (hj : j < fs.length) : (bl (slF x fs j)).getD 0 0 = mkN x (j + 1) ∧ (bl (slF x fs j)).getD 511 0 = mkN x (j + 1) := by
  unfold slF; rw [bl_tx]; exact seal_mark (h.at hj).b

theorem mkN_zero (x : ByteArray) : mkN x 0 = (bl x).getD 511 0 := by
  unfold mkN; apply UInt8.toNat_inj.1; rw [u8_nat, Nat.add_zero]; exact Nat.mod_eq_of_lt ((bl x).getD 511 0).toNat_lt

theorem markB_next {x s : ByteArray} {a : Nat} (h : (bl s).getD 511 0 = mkN x a) : markB s = mkN x (a + 1) := by
  unfold markB markN
  rw [h]
  apply UInt8.toNat_inj.1
  unfold mkN
  rw [u8_nat, u8_nat, u8_nat]
  omega

/-- What may lie there. -/
def Out (x : ByteArray) (fs : List Frm) (i : Nat) (y : ByteArray) : Prop :=
  y.size = 512 ∧ (y = x ∨ (∃ j, j < i ∧ y = slF x fs j) ∨ ∃ a b, b < a ∧ a ≤ i ∧ (bl y).getD 0 0 = mkN x a ∧ (bl y).getD 511 0 = mkN x b)

theorem layT_ends {x s : ByteArray} {k : Nat} (hx : x.size = 512) (hs : s.size = 512) (h0 : 0 < k) (h1 : k < 512) : (bl (layT x s k)).getD 0 0 = (bl s).getD 0 0 ∧ (bl (layT x s k)).getD 511 0 = (bl x).getD 511 0 := by
  refine ⟨?_, ?_⟩
  · rw [bl_layT hx, List.getD_eq_getElem?_getD, List.getElem?_append_left (by rw [List.length_take, bl_length]; omega), List.getElem?_take_of_lt h0, ← List.getD_eq_getElem?_getD]
  · have ht : ((bl s).take k).length = k := by rw [List.length_take, bl_length]; omega
    rw [bl_layT hx, List.getD_eq_getElem?_getD, List.getElem?_append_right (by omega), ht, List.getElem?_drop, show k + (511 - k) = 511 by omega, ← List.getD_eq_getElem?_getD]

theorem layT_zero {x s : ByteArray} (hx : x.size = 512) : layT x s 0 = x := by
  apply bl_inj
  rw [bl_layT hx]; simp

theorem Out.step {x y : ByteArray} {fs : List Frm} {i k : Nat} (o : Out x fs i y) (h : AllRight fs) (hi : i < fs.length) (hk : k ≤ 512) : Out x fs (i + 1) (layT y (slF x fs i) k) := by
  obtain ⟨hy, hc⟩ := o
  have hs := slF_size (x := x) h hi
  have hm := slF_marks (x := x) h hi
  refine ⟨layT_size hy hs hk, ?_⟩
  rcases Nat.eq_zero_or_pos k with hk0 | hk0
  · subst hk0
    rw [layT_zero hy]
    rcases hc with hc | ⟨j, hj, hc⟩ | ⟨a, b, h1, h2, h3, h4⟩
    · exact .inl hc
    · exact .inr (.inl ⟨j, by omega, hc⟩)
    · exact .inr (.inr ⟨a, b, h1, by omega, h3, h4⟩)
  · rcases Nat.eq_or_lt_of_le hk with hk1 | hk1
    · subst hk1
      rw [layT_all hs hy]
      exact .inr (.inl ⟨i, by omega, rfl⟩)
    · obtain ⟨e0, e1⟩ := layT_ends hy hs hk0 hk1
      right; right
      rcases hc with hc | ⟨j, hj, hc⟩ | ⟨a, b, h1, h2, h3, h4⟩
      · exact ⟨i + 1, 0, by omega, by omega, by rw [e0, hm.1], by rw [e1, hc, mkN_zero]⟩
      · exact ⟨i + 1, j + 1, by omega, by omega, by rw [e0, hm.1], by rw [e1, hc]; exact (slF_marks h (by omega)).2⟩
      · exact ⟨i + 1, b, by omega, by omega, by rw [e0, hm.1], by rw [e1, h4]⟩

theorem Out.open {x y : ByteArray} {fs : List Frm} {i : Nat} (o : Out x fs i y) (h : AllRight fs) (hi : i ≤ fs.length) (h255 : i ≤ 255) : openF y = openF x ∨ openF y = (Frm.no, 0, 50) ∨ ∃ j m, j < i ∧ openF y = (fs.getD j Frm.no, m, 0) := by
  obtain ⟨hy, hc | ⟨j, hj, hc⟩ | ⟨a, b, h1, h2, h3, h4⟩⟩ := o
  · exact .inl (by rw [hc])
  · right; right
    refine ⟨j, ((mkN x (j + 1)).toNat : Int), hj, ?_⟩
    rw [hc]
    exact open_seal (h.at (by omega))
  · right; left
    have hne : mkN x a ≠ mkN x b := by
      intro e
      have := congrArg UInt8.toNat e
      unfold mkN at this
      rw [u8_nat, u8_nat] at this
      have := ((bl x).getD 511 0).toNat_lt
      omega
    unfold openF
    rw [if_neg (by omega), h3, h4, if_pos hne]

theorem laid_out {safe : List ByteArray} {fs : List Frm} (h : AllRight fs) (hl : safe.length = 2) (h512 : ∀ s ∈ safe, s.size = 512) (fates : List (Int × Int)) {K : Nat} (hK : K ≤ fs.length) : ∀ i, i ≤ K → (layFates safe (pendL (safe.getD 1 ByteArray.empty) fs i) fates).length = 2 ∧ Out (safe.getD 1 ByteArray.empty) fs i ((layFates safe (pendL (safe.getD 1 ByteArray.empty) fs i) fates).getD 1 ByteArray.empty) := by
  intro i
  induction i with
  | zero =>
    intro _
    refine ⟨hl, ?_, .inl rfl⟩
    show (safe.getD 1 ByteArray.empty).size = 512
    rw [List.getD_eq_getElem?_getD, List.getElem?_eq_getElem (by omega)]
    exact h512 _ (List.getElem_mem _)
  | succ i ih =>
    intro hi
    obtain ⟨h1, h2⟩ := ih (by omega)
    generalize hx : safe.getD 1 ByteArray.empty = x at *
    have hpi : i < (pendL x fs (i + 1)).length := by rw [pendL_length]; omega
    have hl1 : pendL x fs (i + 1) = (pendL x fs (i + 1)).take (i + 1) := by rw [List.take_of_length_le (by rw [pendL_length]; exact Nat.le_refl _)]
    have hti : (pendL x fs (i + 1)).take i = pendL x fs i := pendL_take x fs (by omega)
    rcases Nat.lt_or_ge i fates.length with hf | hf
    · have e := layFates_take (l := pendL x fs (i + 1)) (fates := fates) hpi hf safe
      rw [← hl1, hti] at e
      have hw : (pendL x fs (i + 1))[i] = (1, slF x fs i) := by simp [pendL]
      rw [e, hw]
      have hn : 1 < (layFates safe (pendL x fs i) fates).length := by omega
      rw [layD_set hn]
      refine ⟨by rw [List.length_set]; exact h1, ?_⟩
      rw [List.getD_eq_getElem?_getD, List.getElem?_set_self hn]
      have h3 := h2.step h (k := keptN fates[i]) (by omega) (keptN_le _)
      rw [List.getD_eq_getElem?_getD, List.getElem?_eq_getElem hn] at h3
      exact h3
    · have e1 := layFates_short (l := pendL x fs (i + 1)) (fates := fates) (i := i) hf safe
      rw [hti] at e1
      rw [← e1]
      refine ⟨h1, h2.1, ?_⟩
      rcases h2.2 with hc | ⟨j, hj, hc⟩ | ⟨a, b, g1, g2, g3, g4⟩
      · exact .inl hc
      · exact .inr (.inl ⟨j, by omega, hc⟩)
      · exact .inr (.inr ⟨a, b, g1, by omega, g3, g4⟩)

theorem look_pend {σ : DS} {fs : List Frm} {i : Nat} (hp : σ.pend = pendL (σ.safe.getD 1 ByteArray.empty) fs i) : σ.look 1 = if i = 0 then σ.safe.getD 1 ByteArray.empty else slF (σ.safe.getD 1 ByteArray.empty) fs (i - 1) := by
  unfold DS.look
  rw [hp]
  cases i with
  | zero => rfl
  | succ i => rw [pendL_succ, lastOf_snoc, if_pos rfl]; rfl

end Go.Vc
