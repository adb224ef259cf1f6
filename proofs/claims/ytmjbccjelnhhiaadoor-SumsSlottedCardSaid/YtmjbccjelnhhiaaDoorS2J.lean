/- The laws SumsFours and SumsJoined: the walks. -/
import Derived.Test.YtmjbccjelnhhiaaDoorS2W
import Derived.Lib.Strings
set_option maxRecDepth 10000
namespace Go.Vc
open Go Go.Proofs Go.MapKept

theorem row35 : RowT Tryd.prog 35 5 1 1 := RowT.of (by kernel_rfl)
theorem u35 : Tryd.prog.underlying 35 = some (.slice 5) := by kernel_rfl
theorem u5 : Tryd.prog.underlying 5 = some (.int .u8) := by kernel_rfl
theorem u9 : Tryd.prog.underlying 9 = some .string := by kernel_rfl

theorem wrap_byte (r : W32) (k : Nat) : IntKind.u8.wrap ((r >>> k).toNat : Int) = ((byteOf r k).toNat : Int) := by
  have : (byteOf r k).toNat = (r >>> k).toNat % 256 := by
    show ((r >>> k).setWidth 8).toNat = _
    rw [BitVec.toNat_setWidth]
  rw [wrapU8, this]
  omega

/-- sums.Four -/
theorem four_27 (s want : W32) (h : Hp) : CallsH Tryd.prog 27 #[vW s, vW want] h (RetX (.string ⟨(fourL s want).toArray⟩) h) := by
  refine V27 _ _ h _ ((eight_38 39 undoB (by kernel_rfl) back_39 h).mono ?_)
  rintro e h1 ⟨rfl, hx1⟩
  refine ⟨tv (eightB undoB), by simp [eightB], rfl, _, not32 _, (times_40 (eightB undoB) (by simp [eightB]) (~~~want) 4 (by decide) h1).mono ?_⟩
  rintro e h2 ⟨rfl, hx2⟩
  rw [times_eight undo_lin]
  have hz : fourW s want >>> 0 = fourW s want := BitVec.ushiftRight_zero _
  refine ⟨_, rfl, _, not32 _, _, xor32 _ _, ((byteOf (fourW s want) 0).toNat : Int), by rw [← wrap_byte, hz]; rfl, by decide, _, shr32 _ 8 (by decide), _, wrap_byte (fourW s want) 8, by decide, _, shr32 _ 16 (by decide), _, wrap_byte (fourW s want) 16,
    by decide, _, shr32 _ 24 (by decide), _, wrap_byte (fourW s want) 24, ?_⟩
  refine semH_build row35 (vs := byteVs (fourL s want)) rfl rfl (by simp [byteVs, fourL]) (by simp [byteVs, fourL]) (by simp [byteVs, fourL, Value.oneCell']) ⟨_, _, _, rfl, ?_⟩
  have hseg : Seg (h2.push (.cells (byteVs (fourL s want)).toArray 5)) (some ⟨h2.size, 0, none⟩) 4 (byteVs (⟨(fourL s want).toArray⟩ : ByteArray).data.toList) :=
    ⟨rfl, .inr ⟨_, _, rfl, cellsAt_all push_last⟩⟩
  refine semH_toText u35 u5 u9 hseg ⟨_, rfl, rfl, (hx1.trans hx2).trans (Ext.push _ _)⟩

theorem bl_extract (b : ByteArray) (l h : Nat) : bl (b.extract l h) = ((bl b).drop l).take (h - l) := Lib.extract_data b l h

theorem more_cut (s : W32) (l m : List UInt8) : moreB s (l ++ m) = moreB (moreB s l) m := by
  unfold moreB
  rw [takesB_append, BitVec.not_not]

theorem extract_size_le (b : ByteArray) (l h : Nat) : (b.extract l h).size ≤ b.size := by
  rw [ByteArray.size_extract]; omega

theorem four_list {l : List UInt8} (h : l.length = 4) : ∃ c0 c1 c2 c3, l = [c0, c1, c2, c3] := by
  match l, h with
  | [a, b, c, d], _ => exact ⟨a, b, c, d, rfl⟩

/-- turnoutlaw02.SumsFours -/
theorem law_9 (s want : W32) (b : ByteArray) (hb : b.size ≤ maxLen) (h : Hp) (hh : Halves h) : CallsH Tryd.prog 9 #[vW s, vW want, .string b] h (RetX (.bool true) h) := by
  have hb' : b.size ≤ 9223372036854775807 := hb
  refine V9 _ _ b h _ ((live_12 h hh).mono ?_)
  rintro e h1 ⟨rfl, hx1⟩
  refine ⟨_, rfl, (four_27 s want h1).mono ?_⟩
  rintro e h2 ⟨rfl, hx2⟩
  have hx := hx1.trans hx2
  refine ⟨_, rfl, (more_22 s _ (by show 4 ≤ maxLen; decide) h2 (hh.ext hx)).mono ?_⟩
  rintro e h3 ⟨rfl, rfl⟩
  have e4 : moreB s (bl ⟨(fourL s want).toArray⟩) = want := four_leads s want
  have hs4 : (⟨(fourL s want).toArray⟩ : ByteArray).size = 4 := rfl
  rw [e4]
  refine ⟨_, rfl, fun l' hq => l' = [] ∧ hq = h3, ⟨false, ⟨fun hf => (by cases hf), fun _ => ⟨fun hne => (by rw [hs4] at hne; simp at hne), fun _ => ⟨rfl, by simp⟩⟩⟩, ⟨fun hf => (by cases hf), fun _ => ⟨rfl, rfl⟩⟩⟩, ?_⟩
  rintro h4 ⟨_, rfl⟩
  refine ⟨fun _ => ⟨rfl, hx⟩, fun hge => ?_⟩
  have hge : 4 ≤ b.size := by simp at hge; omega
  refine ⟨((b.size - 4 : Nat) : Int), by rw [wrapI64] <;> omega, b.size - 4, rfl, Nat.zero_le _, by omega, _, rfl, ?_⟩
  refine (more_22 s _ (Nat.le_trans (extract_size_le _ _ _) hb) h4 (hh.ext hx)).mono ?_
  rintro e h5 ⟨rfl, rfl⟩
  refine ⟨_, rfl, (more_22 s b hb h5 (hh.ext hx)).mono ?_⟩
  rintro e h6 ⟨rfl, rfl⟩
  refine ⟨_, rfl, (four_27 _ _ h6).mono ?_⟩
  rintro e h7 ⟨rfl, hx7⟩
  refine ⟨_, rfl, b.size - 4, rfl, by omega, Nat.le_refl _, _, rfl, ?_, hx.trans hx7⟩
  have hbl : (bl b).length = b.size := by simp
  have e1 : bl (b.extract 0 (b.size - 4)) = (bl b).take (b.size - 4) := by rw [bl_extract]; simp
  have e2 : bl (b.extract (b.size - 4) b.size) = (bl b).drop (b.size - 4) := by
    rw [bl_extract, List.take_of_length_le]; simp only [List.length_drop]; omega
  have e3 : bl b = (bl b).take (b.size - 4) ++ (bl b).drop (b.size - 4) := (List.take_append_drop _ _).symm
  obtain ⟨c0, c1, c2, c3, hc⟩ := four_list (l := (bl b).drop (b.size - 4)) (by simp only [List.length_drop]; omega)
  have e5 : fourL (moreB s (bl (b.extract 0 (b.size - 4)))) (moreB s (bl b)) = bl (b.extract (b.size - 4) b.size) := by
    rw [e1, e2]
    conv => lhs; arg 2; rw [e3]
    rw [more_cut, hc, four_back]
  congr 2
  rw [decide_eq_true_iff]
  apply ByteArray.ext
  apply Array.toList_inj.1
  exact e5

/-- A sum of one text. -/
theorem sum_one (b : ByteArray) (hb : b.size ≤ maxLen) (h : Hp) (hh : Halves h) {K : Int → Hp → Prop} (hK : ∀ h', Ext h h' → K ((sumB [b]).toNat : Int) h') :
    SemH Tryd.prog (Instr.buildSlice 23 1 #[(0, (Value.string b))]) h fun v_ h1 => ∃ (p : Option Addr) (n c : Nat), v_ = (Value.slice p n c) ∧
      CallsH Tryd.prog 20 #[(Value.slice p n c)] h1 fun e h2 => ∃ x : Int, e = .returned (Value.int .u32 x) ∧ K x h2 := by
  refine semH_build row23 (vs := [.string b]) rfl rfl (by simp) (by simp) (by simp [Value.oneCell']) ⟨_, _, _, rfl, ?_⟩
  have hseg : Seg (h.push (.cells [Value.string b].toArray 9)) (some ⟨h.size, 0, none⟩) 1 ([b].map Value.string) := ⟨rfl, .inr ⟨_, _, rfl, cellsAt_all push_last⟩⟩
  refine (sum_20 [b] (by simpa using hb) _ (hh.ext (Ext.push _ _)) hseg (by decide)).mono ?_
  rintro e h2 ⟨rfl, rfl⟩
  exact ⟨_, rfl, hK _ (Ext.push _ _)⟩

theorem bl_append (x y : ByteArray) : bl (x ++ y) = bl x ++ bl y := by
  show (x ++ y).data.toList = _
  rw [ByteArray.data_append, Array.toList_append]

theorem sumB_one (x : ByteArray) : sumB [x] = ~~~ takesB (BitVec.allOnes 32) (bl x) := rfl
theorem sumB_two (x y : ByteArray) : sumB [x, y] = ~~~ takesB (takesB (BitVec.allOnes 32) (bl x)) (bl y) := rfl

theorem sum_whole (x y : ByteArray) : sumB [x ++ y] = sumB [x, y] := by
  rw [sumB_one, sumB_two, bl_append, takesB_append]
theorem sum_goes (x y : ByteArray) : moreB (sumB [x]) (bl y) = sumB [x, y] := by
  rw [sumB_one, sumB_two, moreB, BitVec.not_not]

theorem sum_joined (x y : ByteArray) : iter turnB (8 * y.size) (sumB [x]) ^^^ sumB [y] = sumB [x, y] := by
  have hl : (bl y).length = y.size := by simp
  rw [sumB_one, sumB_one, sumB_two]
  rw [takesB_split (takesB (BitVec.allOnes 32) (bl x)) (bl y), takesB_split (BitVec.allOnes 32) (bl y), hl]
  generalize takesB (BitVec.allOnes 32) (bl x) = X
  generalize takesB 0#32 (bl y) = Y
  rw [not_xor X, not_xor (iter turnB (8 * y.size) (BitVec.allOnes 32) ^^^ Y), not_xor (iter turnB (8 * y.size) X ^^^ Y), turn_lin.iter]
  generalize iter turnB (8 * y.size) X = A
  generalize iter turnB (8 * y.size) (BitVec.allOnes 32) = B
  rw [BitVec.xor_assoc B Y, ← BitVec.xor_assoc (A ^^^ B) B, BitVec.xor_assoc A B B, BitVec.xor_self, BitVec.xor_zero, BitVec.xor_assoc]

theorem sum_taken (x y : ByteArray) : iter undoB (8 * y.size) (sumB [x, y] ^^^ sumB [y]) = sumB [x] := by
  rw [← sum_joined, BitVec.xor_assoc, BitVec.xor_self, BitVec.xor_zero, iter_undo_turn]

theorem xorL_length : ∀ (x y : List UInt8), x.length = y.length → (xorL x y).length = x.length
  | [], [], _ => rfl
  | _ :: r, _ :: s, h => by simp [xorL, xorL_length r s (by simpa using h)]

theorem sum_three (x y z : ByteArray) (m : ByteArray) (hxy : x.size = y.size) (hxz : x.size = z.size) (hm : bl m = xorL (xorL (bl x) (bl y)) (bl z)) : (sumB [x] ^^^ sumB [y]) ^^^ sumB [z] = sumB [m] := by
  have l1 : (bl x).length = (bl y).length := by simpa using hxy
  have l2 : (bl x).length = (bl z).length := by simpa using hxz
  rw [sumB_one, sumB_one, sumB_one, sumB_one, hm]
  have e : takesB (BitVec.allOnes 32) (xorL (xorL (bl x) (bl y)) (bl z)) = (takesB (BitVec.allOnes 32) (bl x) ^^^ takesB (BitVec.allOnes 32) (bl y)) ^^^ takesB (BitVec.allOnes 32) (bl z) := by
    rw [← takesB_lin _ _ _ _ l1, ← takesB_lin _ _ _ _ (by rw [xorL_length _ _ l1]; exact l2)]
    congr 1
  rw [e]
  generalize takesB (BitVec.allOnes 32) (bl x) = A
  generalize takesB (BitVec.allOnes 32) (bl y) = B
  generalize takesB (BitVec.allOnes 32) (bl z) = C
  rw [not_xor A, not_xor B, not_xor C, not_xor (A ^^^ B ^^^ C), xor_cancel, BitVec.xor_assoc (A ^^^ B) C]

theorem xorL_at : ∀ (x y : List UInt8) (i : Nat) (hx : i < x.length) (hy : i < y.length), (xorL x y)[i]? = some (x[i] ^^^ y[i])
  | _ :: _, _ :: _, 0, _, _ => rfl
  | _ :: r, _ :: s, i + 1, hx, hy => by
    show (xorL r s)[i]? = _
    rw [xorL_at r s i (by simpa using hx) (by simpa using hy)]
    rfl

theorem xor8b (a b : UInt8) : xorI .u8 (a.toNat : Int) (b.toNat : Int) = ((a ^^^ b).toNat : Int) := xor8 a.toBitVec b.toBitVec

/-- turnoutlaw02.SumsJoined -/
theorem law_11 (x y z : ByteArray) (hx0 : x.size ≤ 140737488351232) (hy0 : y.size ≤ 140737488351232) (hz0 : z.size ≤ 140737488351232) (h : Hp) (hh : Halves h) :
    CallsH Tryd.prog 11 #[.string x, .string y, .string z] h (RetX (.bool true) h) := by
  have hm : ∀ n : Nat, n ≤ 281474976702464 → n ≤ maxLen := fun n hn => by simp only [maxLen]; omega
  refine V11 x y z h _ ((live_12 h hh).mono ?_)
  rintro e h1 ⟨rfl, x1⟩
  refine ⟨_, rfl, sum_one x (hm _ (by omega)) h1 (hh.ext x1) fun h2 x2 => ?_⟩
  have y2 := x1.trans x2
  refine sum_one y (hm _ (by omega)) h2 (hh.ext y2) fun h3 x3 => ?_
  have y3 := y2.trans x3
  refine semH_build row23 (vs := [.string x, .string y]) rfl rfl (by simp) (by simp) (by simp [Value.oneCell']) ⟨_, _, _, rfl, ?_⟩
  have hseg : Seg (h3.push (.cells [Value.string x, Value.string y].toArray 9)) (some ⟨h3.size, 0, none⟩) 2 ([x, y].map Value.string) := ⟨rfl, .inr ⟨_, _, rfl, cellsAt_all push_last⟩⟩
  refine (sum_20 [x, y] (by intro b hb; simp at hb; rcases hb with rfl | rfl <;> exact hm _ (by omega)) _ (hh.ext (y3.trans (Ext.push _ _))) hseg (by decide)).mono ?_
  rintro e h4 ⟨rfl, rfl⟩
  have y4 := y3.trans (Ext.push h3 (.cells [Value.string x, Value.string y].toArray 9))
  generalize h3.push (.cells [Value.string x, Value.string y].toArray 9) = h4 at *
  refine ⟨_, rfl, by omega, _, rfl, sum_one (x ++ y) (hm _ (by rw [ByteArray.size_append]; omega)) h4 (hh.ext y4) fun h5 x5 => ?_⟩
  have y5 := y4.trans x5
  refine (more_22 _ y (hm _ (by omega)) h5 (hh.ext y5)).mono ?_
  rintro e h6 ⟨rfl, rfl⟩
  refine ⟨_, rfl, (join_28 _ _ _ (by omega) (by omega) h6).mono ?_⟩
  rintro e h7 ⟨rfl, x7⟩
  refine ⟨_, _, rfl, (split_29 _ _ _ (by omega) (by omega) h7).mono ?_⟩
  rintro e h8 ⟨rfl, x8⟩
  have y8 := (y5.trans x7).trans x8
  rw [times_eight turn_lin, times_eight undo_lin, Int.toNat_natCast, sum_whole, sum_goes, sum_joined, sum_taken]
  refine ⟨_, _, rfl, fun l' hq => l' = [] ∧ hq = h8, ⟨false, ⟨fun hf => (by cases hf), fun _ => ⟨fun hf => (by simp at hf), fun _ => ⟨fun hf => (by simp at hf), fun _ => ⟨fun hf => (by simp at hf), fun _ => ⟨fun hf => (by simp at hf), fun _ => ⟨fun hf => (by simp at hf), fun _ => ⟨rfl, by simp⟩⟩⟩⟩⟩⟩⟩, ⟨fun hf => (by cases hf), fun _ => ⟨rfl, rfl⟩⟩⟩, ?_⟩
  rintro h9 ⟨_, rfl⟩
  obtain ⟨k, hk⟩ : ∃ k : Nat, k = min (min x.size y.size) z.size := ⟨_, rfl⟩
  have hki : min (min (x.size : Int) (y.size : Int)) (z.size : Int) = (k : Int) := by omega
  rw [hki]
  have kx : k ≤ x.size := by omega
  have ky : k ≤ y.size := by omega
  have kz : k ≤ z.size := by omega
  refine ⟨fun l' hq => ∃ (i : Nat) (p : Option Addr) (c : Nat), i ≤ k ∧ l' = [.slice p i c, vI i] ∧ Own hq h9.size 5 1 (.slice p i c) i (byteVs ((xorL (xorL (bl x) (bl y)) (bl z)).take i)) ∧ Ext h9 hq,
    fun l' _ => (k - numAt l' 1).toNat, ⟨0, none, 0, Nat.zero_le _, rfl, Own.nil _ _ _ _, Ext.refl _⟩, ?_⟩
  rintro p n1 c xx hp ⟨i, p', c', hi, hl, ho, hx⟩
  cases hl
  refine ⟨fun hlt => ?_, fun hge => ?_⟩
  · have hlt : n1 < k := by simp at hlt; omega
    refine ⟨by omega, _, byteAt (by omega), by omega, _, byteAt (by omega), _, xor8b _ _, by omega, _, byteAt (by omega), _, xor8b _ _, ?_⟩
    refine semH_push row35 ho (vs := [.int .u8 (((x[n1] ^^^ y[n1]) ^^^ z[n1] : UInt8).toNat : Int)]) (m := 1) rfl rfl (by simp) (by simp) (by simp [Value.oneCell']) (by omega) (by simp only [maxLen]; omega) hx.size fun p2 c2 h2 ho2 hg2 _ _ => ?_
    refine ⟨_, incI (by omega), ⟨n1 + 1, p2, c2, hlt, rfl, ?_, hx.own ho (Nat.le_refl _) hg2⟩, by simp only [numAt]; omega⟩
    have b1 : n1 < (bl x).length := by simp; omega
    have b2 : n1 < (bl y).length := by simp; omega
    have b3 : n1 < (bl z).length := by simp; omega
    have a1 := xorL_at (bl x) (bl y) n1 b1 b2
    obtain ⟨b4, a1'⟩ := List.getElem?_eq_some_iff.1 a1
    have a2 := xorL_at (xorL (bl x) (bl y)) (bl z) n1 b4 b3
    obtain ⟨b5, a2'⟩ := List.getElem?_eq_some_iff.1 a2
    have e : (xorL (xorL (bl x) (bl y)) (bl z)).take (n1 + 1) = (xorL (xorL (bl x) (bl y)) (bl z)).take n1 ++ [(x[n1] ^^^ y[n1]) ^^^ z[n1]] := by
      rw [take_one b5, a2', a1']; rfl
    rw [e, byteVs, List.map_append]
    exact ho2
  · have hn : n1 = k := by simp at hge; omega
    subst hn
    have hx9 := y8.trans hx
    refine ⟨n1, rfl, Nat.zero_le _, kx, _, rfl, sum_one _ (hm _ (Nat.le_trans (extract_size_le _ _ _) (by omega))) hp (hh.ext hx9) fun h10 x10 => ?_⟩
    have y10 := hx9.trans x10
    refine ⟨n1, rfl, Nat.zero_le _, ky, _, rfl, sum_one _ (hm _ (Nat.le_trans (extract_size_le _ _ _) (by omega))) h10 (hh.ext y10) fun h11 x11 => ?_⟩
    have y11 := y10.trans x11
    refine ⟨n1, rfl, Nat.zero_le _, kz, _, rfl, sum_one _ (hm _ (Nat.le_trans (extract_size_le _ _ _) (by omega))) h11 (hh.ext y11) fun h12 x12 => ?_⟩
    have y12 := y11.trans x12
    have hown := ((ho.ext x10).ext x11).ext x12
    have hml : ((xorL (xorL (bl x) (bl y)) (bl z)).take n1).length = n1 := by have := hown.len.2.1; simpa [byteVs] using this
    refine semH_toText u35 u5 u9 (t := ⟨((xorL (xorL (bl x) (bl y)) (bl z)).take n1).toArray⟩) hown.seg ⟨_, rfl, ?_⟩
    refine sum_one _ (hm _ (by show Array.size _ ≤ _; rw [List.size_toArray, hml]; omega)) h12 (hh.ext y12) fun h13 x13 => ?_
    refine ⟨_, xor32 _ _, _, xor32 _ _, ?_, y12.trans x13⟩
    have t1 : ∀ (w : ByteArray), bl (w.extract 0 n1) = (bl w).take n1 := fun w => by rw [bl_extract]; simp
    have t2 : ∀ (u v : List UInt8) (j : Nat), (xorL u v).take j = xorL (u.take j) (v.take j) := by
      intro u
      induction u with
      | nil => intro v j; cases j <;> rfl
      | cons a r ih =>
        intro v j
        cases v with
        | nil => cases j <;> simp [xorL]
        | cons b s =>
          cases j with
          | zero => rfl
          | succ j => simp only [xorL, List.take_succ_cons, ih]
    have key := sum_three (x.extract 0 n1) (y.extract 0 n1) (z.extract 0 n1) ⟨((xorL (xorL (bl x) (bl y)) (bl z)).take n1).toArray⟩
      (by rw [ByteArray.size_extract, ByteArray.size_extract]; omega) (by rw [ByteArray.size_extract, ByteArray.size_extract]; omega)
      (by rw [t1, t1, t1, ← t2, ← t2])
    rw [key]
    simp

end Go.Vc
