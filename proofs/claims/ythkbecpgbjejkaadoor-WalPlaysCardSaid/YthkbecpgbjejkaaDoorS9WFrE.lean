/- What is sealed is opened as it was. -/
import Derived.Test.YthkbecpgbjejkaaDoorS9WFrC
set_option maxRecDepth 10000
namespace Go.Vc
open Go Go.Proofs

theorem seg_mid {pre M post : List UInt8} {o n : Nat} (ho : o = pre.length) (hn : n = M.length) : ((pre ++ (M ++ post)).drop o).take n = M := by
  subst ho hn
  rw [List.drop_left, List.take_left]

structure Frm.Right (f : Frm) : Prop where
  k0 : 1 ≤ f.kind
  k1 : f.kind ≤ 255
  n : f.number < 18446744073709551616
  i0 : 0 ≤ f.index
  i1 : f.index ≤ 2147483647
  b : f.body.size ≤ 491

theorem Frm.Right.wrong {f : Frm} (r : f.Right) : f.wrong = 0 := by
  obtain ⟨h1, h2, h3, h4, h5, h6⟩ := r
  unfold Frm.wrong
  rw [if_neg (by omega), if_neg (by omega)]

theorem Frm.Right.ok {f : Frm} (r : f.Right) : f.Ok := by
  obtain ⟨h1, h2, h3, h4, h5, h6⟩ := r
  exact ⟨by omega, by omega, h3, by omega, by omega, by omega⟩

theorem Frm.Right.of {f : Frm} (ok : f.Ok) (h : f.wrong = 0) : f.Right := by
  obtain ⟨h1, h2, h3, h4, h5⟩ := f.right_of h
  exact ⟨h1, h2, ok.n, h3, h4, h5⟩

theorem sealL_length {f : Frm} (h : f.body.size ≤ 491) (m : UInt8) : (sealL f m).length = 512 := by
  simp only [sealL, List.length_cons, List.length_append, midL_length h, leL_length, List.length_nil]

section
variable {f : Frm} {m : UInt8}

theorem seal_mark (h : f.body.size ≤ 491) : (sealL f m).getD 0 0 = m ∧ (sealL f m).getD 511 0 = m := by
  refine ⟨rfl, ?_⟩
  have e : sealL f m = (m :: (midL f ++ leL (sumL (midL f)))) ++ [m] := by simp [sealL]
  have hl : (m :: (midL f ++ leL (sumL (midL f)))).length = 511 := by simp only [List.length_cons, List.length_append, midL_length h, leL_length]
  rw [e, List.getD_eq_getElem?_getD, List.getElem?_append_right (by omega), hl]
  rfl

theorem seal_mid (h : f.body.size ≤ 491) : ((sealL f m).drop 1).take 506 = midL f := by
  have e : sealL f m = [m] ++ (midL f ++ (leL (sumL (midL f)) ++ [m])) := rfl
  rw [e]
  exact seg_mid rfl (midL_length h).symm

theorem seal_sum (h : f.body.size ≤ 491) : ((sealL f m).drop 507).take 4 = leL (sumL (midL f)) := by
  have e : sealL f m = (m :: midL f) ++ (leL (sumL (midL f)) ++ [m]) := by simp [sealL]
  rw [e]
  exact seg_mid (by rw [List.length_cons, midL_length h]) (leL_length _).symm

theorem seal_kind : (sealL f m).getD 1 0 = UInt8.ofNat f.kind.toNat := rfl

theorem seal_number : ((sealL f m).drop 2).take 8 = beL 8 f.number := by
  have e : sealL f m = (m :: beL 1 f.kind.toNat) ++ (beL 8 f.number ++ (beL 4 f.index.toNat ++ (beL 2 f.body.size ++ (bl f.body ++ List.replicate (491 - f.body.size) 0)) ++ (leL (sumL (midL f)) ++ [m]))) := by
    simp [sealL, midL]
  rw [e]
  exact seg_mid rfl (beL_length _ _).symm

theorem seal_index : ((sealL f m).drop 10).take 4 = beL 4 f.index.toNat := by
  have e : sealL f m = (m :: beL 1 f.kind.toNat ++ beL 8 f.number) ++ (beL 4 f.index.toNat ++ (beL 2 f.body.size ++ (bl f.body ++ List.replicate (491 - f.body.size) 0) ++ (leL (sumL (midL f)) ++ [m]))) := by
    simp [sealL, midL]
  rw [e]
  exact seg_mid (by simp [beL_length]) (beL_length _ _).symm

theorem seal_length : ((sealL f m).drop 14).take 2 = beL 2 f.body.size := by
  have e : sealL f m = (m :: beL 1 f.kind.toNat ++ beL 8 f.number ++ beL 4 f.index.toNat) ++ (beL 2 f.body.size ++ (bl f.body ++ List.replicate (491 - f.body.size) 0 ++ (leL (sumL (midL f)) ++ [m]))) := by
    simp [sealL, midL]
  rw [e]
  exact seg_mid (by simp [beL_length]) (beL_length _ _).symm

theorem seal_body : ((sealL f m).drop 16).take f.body.size = bl f.body := by
  have e : sealL f m = (m :: beL 1 f.kind.toNat ++ beL 8 f.number ++ beL 4 f.index.toNat ++ beL 2 f.body.size) ++ (bl f.body ++ (List.replicate (491 - f.body.size) 0 ++ (leL (sumL (midL f)) ++ [m]))) := by
    simp [sealL, midL]
  rw [e]
  exact seg_mid (by simp [beL_length]) (bl_length _).symm

theorem seal_rest {q : Nat} (hq : q < 491 - f.body.size) : (sealL f m).getD (16 + f.body.size + q) 0 = 0 := by
  have e : sealL f m = (m :: beL 1 f.kind.toNat ++ beL 8 f.number ++ beL 4 f.index.toNat ++ beL 2 f.body.size ++ bl f.body) ++ (List.replicate (491 - f.body.size) 0 ++ (leL (sumL (midL f)) ++ [m])) := by
    simp [sealL, midL]
  have hl : (m :: beL 1 f.kind.toNat ++ beL 8 f.number ++ beL 4 f.index.toNat ++ beL 2 f.body.size ++ bl f.body).length = 16 + f.body.size := by
    simp only [List.length_append, List.length_cons, beL_length, bl_length]
  rw [e, List.getD_eq_getElem?_getD, List.getElem?_append_right (by omega), hl, List.getElem?_append_left (by rw [List.length_replicate]; omega), List.getElem?_replicate, if_pos (by omega)]
  rfl

theorem open_seal (r : f.Right) : openF (tx (sealL f m)) = (f, (m.toNat : Int), 0) := by
  have hb := r.b
  have hs : (tx (sealL f m)).size = 512 := by rw [tx_size, sealL_length hb]
  have hn : numL (((sealL f m).drop 14).take 2) = f.body.size := by rw [seal_length, numL_beL]; omega
  have hi : numL (((sealL f m).drop 10).take 4) = f.index.toNat := by rw [seal_index, numL_beL]; have := r.i1; omega
  have h8 : numL (((sealL f m).drop 2).take 8) = f.number := by rw [seal_number, numL_beL]; have := r.n; omega
  have hk : ((UInt8.ofNat f.kind.toNat).toNat : Int) = f.kind := by rw [u8_nat]; have := r.k0; have := r.k1; omega
  unfold openF
  rw [bl_tx, if_neg (by omega), (seal_mark hb).1, (seal_mark hb).2, if_neg (by simp), seal_sum hb, seal_mid hb, if_neg (by simp), seal_kind, hi, hn]
  rw [if_neg, if_neg, h8, hk]
  · have e : (tx (sealL f m)).extract 16 (16 + f.body.size) = f.body := bl_inj (by rw [bl_extract, bl_tx, Nat.add_sub_cancel_left]; exact seal_body)
    have e2 : ((f.index.toNat : Nat) : Int) = f.index := by have := r.i0; omega
    rw [e, e2]
  · rintro ⟨q, hq, hbad⟩
    exact hbad (seal_rest hq)
  · rintro (e | e | e)
    · have := congrArg UInt8.toNat e
      have h0 : (0 : UInt8).toNat = 0 := rfl
      rw [h0] at this
      have := r.k0
      omega
    · have := r.i1; omega
    · omega

end

end Go.Vc
