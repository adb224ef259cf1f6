/- Bits turned between the marks are told by the sum. -/
import Derived.Test.YtomdlmjibojcoaaDoorS5FrC
import Derived.Test.YtomdlmjibojcoaaDoorBuM
set_option maxRecDepth 10000
namespace Go.Vc
open Go Go.Proofs

theorem xorL_len : ∀ (x y : List UInt8), x.length = y.length → (xorL x y).length = x.length
  | [], [], _ => rfl
  | _ :: r, _ :: s, h => by simp [xorL, xorL_len r s (by simpa using h)]

theorem byteOf_xor (x r : W32) (k : Nat) : byteOf (x ^^^ r) k = byteOf x k ^^^ byteOf r k := by
  unfold byteOf
  apply UInt8.toBitVec_inj.1
  show ((x ^^^ r) >>> k).setWidth 8 = (x >>> k).setWidth 8 ^^^ (r >>> k).setWidth 8
  rw [BitVec.ushiftRight_xor_distrib, BitVec.setWidth_xor]

theorem ofNat_byteOf (x : W32) (k : Nat) : UInt8.ofNat (x.toNat / 2 ^ k) = byteOf x k := by
  unfold byteOf
  apply UInt8.toNat_inj.1
  rw [u8_nat]
  show _ = ((x >>> k).setWidth 8).toNat
  rw [BitVec.toNat_setWidth, BitVec.toNat_ushiftRight, Nat.shiftRight_eq_div_pow]

theorem leL_bytes (x : W32) : leL x = [byteOf x 0, byteOf x 8, byteOf x 16, byteOf x 24] := by
  rw [← ofNat_byteOf, ← ofNat_byteOf, ← ofNat_byteOf, ← ofNat_byteOf]; rfl

theorem u8_cancel {a b c : UInt8} (h : a ^^^ b = a ^^^ c) : b = c := by
  have := congrArg (fun x => a ^^^ x) h
  simpa [← UInt8.xor_assoc] using this

theorem sum_xor {M D : List UInt8} (h : D.length = M.length) : sumL (xorL M D) = sumL M ^^^ takesB 0#32 D := by
  have e1 : ∀ l, sumL l = ~~~ takesB (BitVec.allOnes 32) l := fun l => by unfold sumL sumB; rw [List.foldl_cons, List.foldl_nil, bl_tx]
  have e := takesB_lin M D (BitVec.allOnes 32) 0#32 h.symm
  rw [BitVec.xor_zero] at e
  rw [e1, e1, e, not_xor, not_xor (takesB (BitVec.allOnes 32) M), BitVec.xor_assoc, BitVec.xor_comm (takesB 0#32 D), ← BitVec.xor_assoc]

theorem turned_told {M D e : List UInt8} (hM : M.length = 506) (hD : D.length = 506) (he : e.length = 4) (hne : takesB 0#32 (D ++ e) ≠ 0#32) (m : UInt8) : openF (tx (m :: (xorL M D ++ (xorL (leL (sumL M)) e ++ [m])))) = (Frm.no, 0, 51) := by
  have l1 : (xorL M D).length = 506 := by rw [xorL_len _ _ (by omega), hM]
  have l2 : (xorL (leL (sumL M)) e).length = 4 := by rw [xorL_len _ _ (by rw [leL_length, he]), leL_length]
  unfold openF
  rw [tx_size, bl_tx]
  rw [if_neg (by simp [l1, l2]), if_neg (fun hn => hn (by
    rw [List.getD_cons_zero]
    rw [show (511 : Nat) = 510 + 1 from rfl, List.getD_cons_succ, List.getD_eq_getElem?_getD, List.getElem?_append_right (by omega), List.getElem?_append_right (by omega), l1, l2]
    rfl)), if_pos ?_]
  have d1 : ((m :: (xorL M D ++ (xorL (leL (sumL M)) e ++ [m]))).drop 507).take 4 = xorL (leL (sumL M)) e := by
    rw [show (507 : Nat) = 506 + 1 from rfl, List.drop_succ_cons, List.drop_left' l1, List.take_left' l2]
  have d2 : ((m :: (xorL M D ++ (xorL (leL (sumL M)) e ++ [m]))).drop 1).take 506 = xorL M D := by
    rw [List.drop_succ_cons, List.drop_zero, List.take_left' l1]
  rw [d1, d2, sum_xor (by omega), leL_bytes, leL_bytes]
  intro h
  match e, he with
  | [c0, c1, c2, c3], _ =>
    simp only [xorL, byteOf_xor, List.cons.injEq, and_true] at h
    obtain ⟨h0, h1, h2, h3⟩ := h
    have := u8_cancel h0; have := u8_cancel h1; have := u8_cancel h2; have := u8_cancel h3
    subst_vars
    apply hne
    rw [takesB_append, takes4, w4_bytes, BitVec.xor_self, iter_zero]

end Go.Vc
