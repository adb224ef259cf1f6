/- The packer's writer: contracts. -/
import Derived.Test.YtloieaoglpjffaaS3PkD
set_option maxRecDepth 10000
namespace Go.Vc
open Go Go.Proofs

section
variable {h : Hp} {B : Nat → Prop} {p : Nat} {w : Wr}

/-- pack.New -/
theorem wnew_c (h : Hp) : CallsH Try.prog 10 #[] h fun e h' => Ext h h' ∧ WrAt h' (GrowB NoB h h') h.size Wr.new ∧ e = .returned (vP h.size) := by
  refine V10 h _ ?_
  intro b h1 hb e1
  subst hb
  refine ⟨by rw [e1]; exact Ext.push _ _, ⟨none, 0, ?_⟩, rfl⟩
  have s1 : h1.size = h.size + 1 := by rw [e1]; simp
  exact ⟨by rw [e1]; exact push_last, Own.nil _ _ _ _, .inr ⟨Nat.le_refl _, by omega⟩, fun b hb => by simp [Value.ownBlock] at hb, fun b hb => by rcases hb with hb | hb; exact hb.elim; exact hb.2⟩

theorem ready_c (W : WrAt h B p w) : CallsH Try.prog 57 #[vP p] h fun e h' => h' = h ∧ e = .returned (.bool (decide (w.e = 0))) := by
  obtain ⟨q, c, W⟩ := W
  exact V57 _ h _ ⟨_, ⟨false, eqv_ptr uPW _, fun _ => ⟨p, 0, rfl, _, cellsAt_one (cellH_at W.cell), rfl, rfl⟩, fun hf => by simp at hf⟩, rfl, rfl⟩

theorem ready_nil : CallsH Try.prog 57 #[.pointer none] h fun e h' => h' = h ∧ e = .returned (.bool false) :=
  V57 _ h _ ⟨_, ⟨true, eqv_nil uPW, fun hf => (by simp at hf), fun _ => ⟨rfl, rfl⟩⟩, rfl, rfl⟩

/-- pack.Writer.Fixed -/
theorem wfixed_c (W : WrAt h B p w) (n : Nat) (k : Int) (hk0 : -9223372036854775808 ≤ k) (hl : w.b.length ≤ 140737488355000) :
    CallsH Try.prog 27 #[vP p, vU n, vZ k] h fun e h' => Same B h h' ∧ WrAt h' (GrowB B h h') p (w.fixed n k) ∧ e = .returned (.tuple #[]) := by
  refine V27 _ _ _ h _ ((ready_c W).mono ?_)
  rintro e h1 ⟨rfl, rfl⟩
  refine ⟨_, rfl, fun h0 => ?_, fun h0 => ?_⟩
  · have h0 : w.e ≠ 0 := by simpa using h0
    refine ⟨Same.refl _ _, ?_, rfl⟩
    unfold Wr.fixed
    rw [if_pos h0]
    exact W.grow
  have h0 : w.e = 0 := by simpa using h0
  refine ⟨decide (k < 1 ∨ 8 < k), ⟨fun a => ⟨rfl, ?_⟩, fun a => ⟨rfl, ?_⟩⟩, fun hB => ?_, fun hB => ?_⟩
  · have a := of_decide_eq_true a; simp [a]
  · have a := of_decide_eq_false a
    apply decide_eq_decide.2; omega
  · have hB := of_decide_eq_true hB
    obtain ⟨q, c, W⟩ := W
    obtain ⟨k1, k2⟩ := W.err 1
    refine ⟨p, 0, rfl, rfl, k1, fun h2 e2 => ?_⟩
    obtain ⟨k3, k4⟩ := k2 h2 e2
    refine ⟨k3, ?_, rfl⟩
    unfold Wr.fixed
    rw [if_neg (by simpa using h0), if_pos hB]
    exact k4.more (fun b hb => .inl hb) (GrowB.lt W.lt k3.size)
  have hB := of_decide_eq_false hB
  obtain ⟨m, rfl⟩ := Int.eq_ofNat_of_zero_le (show 0 ≤ k by omega)
  have hm1 : 1 ≤ m := by omega
  have hm8 : m ≤ 8 := by omega
  refine ⟨decide (m < 8 ∧ n / 2 ^ (8 * m) ≠ 0), ⟨fun a => ⟨((8 * m : Nat) : Int), by rw [wrapI64] <;> omega, by omega, _, sr64n (by omega), rfl, ?_⟩, fun a => ⟨rfl, ?_⟩⟩, fun hC => ?_, fun hC => ?_⟩
  · have a : m < 8 := by have := of_decide_eq_true a; omega
    apply decide_eq_decide.2
    constructor
    · intro hh; have := hh.2; omega
    · intro hh; exact ⟨a, by omega⟩
  · have a : ¬ m < 8 := by have := of_decide_eq_false a; omega
    simp [a]
  · have hC := of_decide_eq_true hC
    obtain ⟨q, c, W⟩ := W
    obtain ⟨k1, k2⟩ := W.err 11
    refine ⟨p, 0, rfl, rfl, k1, fun h2 e2 => ?_⟩
    obtain ⟨k3, k4⟩ := k2 h2 e2
    refine ⟨k3, ?_, rfl⟩
    unfold Wr.fixed
    rw [if_neg (by simpa using h0), if_neg hB, if_pos ⟨by omega, by rw [Int.toNat_natCast]; exact hC.2⟩]
    exact k4.more (fun b hb => .inl hb) (GrowB.lt W.lt k3.size)
  have hC := of_decide_eq_false hC
  have eW : w.fixed n (m : Int) = ⟨w.b ++ beL m n, w.e⟩ := by
    unfold Wr.fixed
    rw [if_neg (by simpa using h0), if_neg hB, if_neg (fun hh => hC ⟨by omega, by have := hh.2; rwa [Int.toNat_natCast] at this⟩), Int.toNat_natCast]
  rw [eW]
  refine ⟨((m : Int) - 1), by rw [wrapI64] <;> omega, fun l hr => ∃ i : Nat, i ≤ m ∧ l = [vZ ((m : Int) - 1 - i)] ∧ Same B h1 hr ∧ WrAt hr (GrowB B h1 hr) p ⟨w.b ++ (beL m n).take i, w.e⟩, fun l _ => (numAt l 0 + 1).toNat,
    ⟨0, Nat.zero_le _, by simp, Same.refl _ _, by simpa using W.grow⟩, ?_⟩
  rintro iv h2 ⟨i, hi, hli, y2, W2⟩
  cases hli
  refine ⟨fun hc => ?_, fun hc => ?_⟩
  · have hc : i < m := by have := of_decide_eq_true hc; omega
    obtain ⟨q, c, W2⟩ := W2
    have hbl : (beL m n).length = m := beL_length m n
    have hlen : (w.b ++ (beL m n).take i).length = w.b.length + i := by rw [List.length_append, List.length_take, hbl]; omega
    obtain ⟨x, hx⟩ : ∃ x, (beL m n)[i]? = some x := ⟨_, List.getElem?_eq_getElem (by omega)⟩
    have hxv : ((n / 2 ^ (8 * (m - 1 - i)) % 256 : Nat) : Int) = (x.toNat : Int) := by
      have e1 : (beL m n).take (i + 1) = beL (i + 1) (n / 256 ^ (m - (i + 1))) := beL_take m (i + 1) n (by omega)
      have e2 : ((beL m n).take (i + 1))[i]? = some (UInt8.ofNat (n / 256 ^ (m - (i + 1)))) := by
        rw [e1, beL, List.getElem?_append_right (by rw [beL_length]; exact Nat.le_refl _), beL_length, Nat.sub_self]; rfl
      rw [List.getElem?_take_of_lt (by omega), hx] at e2
      cases e2
      rw [u8_nat, show (256 : Nat) ^ (m - (i + 1)) = 2 ^ (8 * (m - 1 - i)) by rw [show (256 : Nat) = 2 ^ 8 from rfl, ← Nat.pow_mul]; congr 2; omega]
    refine ⟨fun hr => hr[p]? = some (.cells #[.slice q (w.b ++ (beL m n).take i).length c, vZ w.e] 71), W2.cell, p, 0, rfl, _, _, _, fun hr hc => cellsAt_one (cellH_at hc), ((8 * (m - 1 - i) : Nat) : Int), by rw [wrapI64] <;> omega, by omega, _, sr64n (by omega), (x.toNat : Int), by rw [← hxv, wrapU8]; omega, ?_⟩
    have lp : p < h2.size := (Array.getElem?_eq_some_iff.1 W2.cell).1
    have np : (Value.slice q (w.b ++ (beL m n).take i).length c).ownBlock ≠ some p := fun e => (W2.bq p e).2 rfl
    have row : Own h2 0 5 1 (.slice q (w.b ++ (beL m n).take i).length c) (w.b ++ (beL m n).take i).length (byteVs (w.b ++ (beL m n).take i)) := W2.row
    refine semH_pushC rowB row (vs := [vB x]) (m := 1) rfl rfl (by simp) (by simp) (by simp [Value.oneCell']) (by omega) (by simp only [maxLen]; omega) (Nat.zero_le _) (fun h' x' => (x'.old p lp).trans W2.cell) (fun h' g => (g.block p lp fun e => np e.symm).trans W2.cell) fun p6 q6 h6 ho6 hg6 _ hb6 => ?_
    have eL : w.b ++ (beL m n).take i ++ [x] = w.b ++ (beL m n).take (i + 1) := by
      rw [List.take_add_one, hx, List.append_assoc]; rfl
    have el : (w.b ++ (beL m n).take i).length + 1 = (w.b ++ (beL m n).take (i + 1)).length := by rw [← eL]; simp only [List.length_append, List.length_singleton]
    have ev : byteVs (w.b ++ (beL m n).take i) ++ [vB x] = byteVs (w.b ++ (beL m n).take (i + 1)) := by rw [← eL]; simp [byteVs]
    rw [ev, el] at ho6
    rw [el] at hb6 ⊢
    obtain ⟨_, k2, k3⟩ := W2.put ho6 ⟨hg6, hb6⟩
    refine ⟨p, 0, rfl, rfl, k2, fun h7 e7 => ?_⟩
    obtain ⟨k4, k5⟩ := k3 h7 e7
    refine ⟨((m : Int) - 1 - (i + 1 : Nat)), by rw [wrapI64] <;> omega, ⟨i + 1, hc, rfl, y2.grow k4, k5.more (fun b hb => ?_) (GrowB.lt W.lt (y2.grow k4).size)⟩, by simp only [numAt]; omega⟩
    have := y2.size
    rcases hb with (hb | hb) | hb
    · exact .inl hb
    · exact .inr ⟨hb.1, by have := k4.size; omega⟩
    · exact .inr ⟨by omega, hb.2⟩
  · have hc : i = m := by have := of_decide_eq_false hc; omega
    subst hc
    rw [List.take_of_length_le (by rw [beL_length]; exact Nat.le_refl _)] at W2
    exact ⟨y2, W2, rfl⟩

theorem wfixed_nil (n : Nat) (k : Int) : CallsH Try.prog 27 #[.pointer none, vU n, vZ k] h fun e h' => h' = h ∧ e = .returned (.tuple #[]) := by
  refine V27 _ _ _ h _ (ready_nil.mono ?_)
  rintro e h1 ⟨rfl, rfl⟩
  exact ⟨_, rfl, fun _ => ⟨rfl, rfl⟩, fun h0 => (by cases h0)⟩

/-- pack.Writer.Out -/
theorem wout_c (W : WrAt h B p w) : CallsH Try.prog 15 #[vP p] h fun e h' => Ext h h' ∧ e = .returned (.tuple #[.string (tx w.out.1), vZ w.out.2]) := by
  obtain ⟨q, c, W⟩ := W
  refine V15 _ h _ ⟨false, eqv_ptr uPW _, fun hf => (by cases hf), fun _ => ⟨p, 0, rfl, _, cellsAt_one (cellH_at W.cell), fun h0 => ?_, fun h0 => ?_⟩⟩
  · have h0 : w.e ≠ 0 := of_decide_eq_true h0
    refine ⟨p, 0, rfl, _, cellsAt_one (cellH_at W.cell), Ext.refl _, ?_⟩
    unfold Wr.out; rw [if_pos h0]; rfl
  · have h0 : w.e = 0 := by have := of_decide_eq_false h0; omega
    have sg : Seg h q w.b.length (byteVs (tx w.b).data.toList) := by
      rw [show (tx w.b).data.toList = w.b from bl_tx _]; exact W.row.seg
    refine ⟨p, 0, rfl, _, _, _, cellsAt_one (cellH_at W.cell), semH_toText uBs uB uStr sg ⟨_, rfl, Ext.refl _, ?_⟩⟩
    unfold Wr.out; rw [if_neg (by simpa using h0)]

theorem wout_nil : CallsH Try.prog 15 #[.pointer none] h fun e h' => h' = h ∧ e = .returned (.tuple #[.string ⟨#[]⟩, vZ 1]) :=
  V15 _ h _ ⟨true, eqv_nil uPW, fun _ => ⟨rfl, rfl⟩, fun hf => by cases hf⟩

end

end Go.Vc
