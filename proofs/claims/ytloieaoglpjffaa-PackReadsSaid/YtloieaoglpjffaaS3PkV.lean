/- The document's values: added up, and out of bytes. -/
import Derived.Test.YtloieaoglpjffaaS3PkY
import Derived.Test.YtloieaoglpjffaaBtN
set_option maxRecDepth 10000
namespace Go.Vc
open Go Go.Proofs

set_option maxHeartbeats 1000000 in
/-- turnoutref01.Add, of the greatest width -/
theorem qadd_c (A B : Nat) (hA : A < 2 ^ 128) (hB : B < 2 ^ 128) (h : Hp) : CallsH Try.prog 76 #[bv A, bv B, vI 128] h fun e h' => Ext h h' ∧ e = .returned (bv ((A + B) % 2 ^ 128)) := by
  refine V76 _ _ _ _ _ h _ ?_
  intro b h1 hb e1
  have x1 : Ext h h1 := by rw [e1]; exact Ext.push _ _
  have c1 : h1[b]? = some (.cells #[vU (A / 2 ^ 64), vU (A % 2 ^ 64)] 34) := by rw [e1, hb]; exact push_last
  have s1 : h1.size = h.size + 1 := by rw [e1]; simp
  clear e1
  intro b1 h2 hb1 e2
  have x2 : Ext h1 h2 := by rw [e2]; exact Ext.push _ _
  have c2 : h2[b1]? = some (.cells #[vU (B / 2 ^ 64), vU (B % 2 ^ 64)] 34) := by rw [e2, hb1]; exact push_last
  have s2 : h2.size = h1.size + 1 := by rw [e2]; simp
  clear e2
  intro b2 h3 hb2 e3
  have x3 : Ext h2 h3 := by rw [e3]; exact Ext.push _ _
  have c3 : h3[b2]? = some (.cells #[vU 0, vU 0] 34) := by rw [e3, hb2, zerosBits]; exact push_last
  have s3 : h3.size = h2.size + 1 := by rw [e3]; simp
  clear e3
  have cb3 := (x3.old b (by omega)).trans ((x2.old b (by omega)).trans c1)
  have cb13 := (x3.old b1 (by omega)).trans c2
  refine ⟨infoBits, _, _, cellsAt_all (vs := [vU (A / 2 ^ 64), vU (A % 2 ^ 64)]) cb3, (qlay_c A hA h3).mono ?_⟩
  rintro e h4 ⟨x4, rfl⟩
  have s4 := x4.size
  refine ⟨layL A, layL_length A, rfl, ?_⟩
  intro b3 h5 hb3 e5
  have x5 : Ext h4 h5 := by rw [e5]; exact Ext.push _ _
  have c5 : h5[b3]? = some (.cells ((List.replicate 128 false).map Value.bool).toArray 95) := by rw [e5, hb3, zerosRow]; exact push_last
  have s5 : h5.size = h4.size + 1 := by rw [e5]; simp
  have hb3 : b3 = h4.size := hb3
  clear e5
  obtain ⟨p1, p2⟩ := row_put (M := layL A) c5 (by simp) (layL_length A)
  refine ⟨infoRow, by simp [layL_length], row_one _, p1, fun h6 e6 => ?_⟩
  have c6 : h6[b3]? = some (.cells ((layL A).map Value.bool).toArray 95) := by rw [e6]; exact p2
  have s6 : h6.size = h5.size := by rw [e6, setsH_size]
  have x6 : Ext h4 h6 := by rw [e6]; exact x5.over (setsH_same (B := fun x => x = b3) rfl) fun x hx => by omega
  clear e6 p1 p2
  refine ⟨_, _, cellsAt_all (vs := [vU (B / 2 ^ 64), vU (B % 2 ^ 64)]) ((x6.old b1 (by omega)).trans ((x4.old b1 (by omega)).trans cb13)), (qlay_c B hB h6).mono ?_⟩
  rintro e h7 ⟨x7, rfl⟩
  have s7 := x7.size
  refine ⟨layL B, layL_length B, rfl, ?_⟩
  intro b4 h8 hb4 e8
  have x8 : Ext h7 h8 := by rw [e8]; exact Ext.push _ _
  have c8 : h8[b4]? = some (.cells ((List.replicate 128 false).map Value.bool).toArray 95) := by rw [e8, hb4, zerosRow]; exact push_last
  have s8 : h8.size = h7.size + 1 := by rw [e8]; simp
  have hb4 : b4 = h7.size := hb4
  clear e8
  obtain ⟨p1, p2⟩ := row_put (M := layL B) c8 (by simp) (layL_length B)
  refine ⟨infoRow, by simp [layL_length], row_one _, p1, fun h9 e9 => ?_⟩
  have c9 : h9[b4]? = some (.cells ((layL B).map Value.bool).toArray 95) := by rw [e9]; exact p2
  have s9 : h9.size = h8.size := by rw [e9, setsH_size]
  have x9 : Ext h7 h9 := by rw [e9]; exact x8.over (setsH_same (B := fun x => x = b4) rfl) fun x hx => by omega
  clear e9 p1 p2
  intro b5 h10 hb5 e10
  have x10 : Ext h9 h10 := by rw [e10]; exact Ext.push _ _
  have c10 : h10[b5]? = some (.cells ((addI (A + B) 0).map Value.bool).toArray 95) := by rw [e10, hb5, zerosRow, addI_zero]; exact push_last
  clear e10
  have hb5 : b5 = h9.size := hb5
  have x03 : Ext h h3 := (x1.trans x2).trans x3
  have x010 : Ext h h10 := (((x03.trans x4).trans x6).trans x7).trans (x9.trans x10)
  have x310 : Ext h3 h10 := ((x4.trans x6).trans x7).trans (x9.trans x10)
  have d3 : h10[b3]? = some (.cells ((layL A).map Value.bool).toArray 95) := ((x7.trans (x9.trans x10)).old b3 (by omega)).trans c6
  have d4 : h10[b4]? = some (.cells ((layL B).map Value.bool).toArray 95) := (x10.old b4 (by omega)).trans c9
  have d2 : h10[b2]? = some (.cells #[vU 0, vU 0] 34) := (x310.old b2 (by omega)).trans c3
  have z03 := x03.size
  refine ⟨infoRow, fun l hr => ∃ k : Nat, k ≤ 128 ∧ l = [.bool (decide (carry A B k = 1)), .int .i64 ((127 : Int) - k)] ∧ Ext h hr ∧ hr[b3]? = some (.cells ((layL A).map Value.bool).toArray 95) ∧ hr[b4]? = some (.cells ((layL B).map Value.bool).toArray 95) ∧ hr[b2]? = some (.cells #[vU 0, vU 0] 34) ∧ hr[b5]? = some (.cells ((addI (A + B) k).map Value.bool).toArray 95),
    fun l _ => (1 + numAt l 1).toNat, ⟨0, Nat.zero_le _, by rw [carry_zero]; rfl, x010, d3, d4, d2, c10⟩, ?_⟩
  clear d3 d4 d2 c10 c9 c8 c6 c5 c3 c2 c1 cb3 cb13
  rintro cy iv h11 ⟨k, hk, hl, x11, d3, d4, d2, d5⟩
  cases hl
  refine ⟨fun hlt => ?_, fun hge => ?_⟩
  · have hlt : k < 128 := by have := of_decide_eq_true hlt; omega
    have ei : ((127 : Int) - k) = ((127 - k : Nat) : Int) := by omega
    rw [ei]
    have la : (layL A)[127 - k]'(by rw [layL_length]; omega) = A.testBit k := by rw [layL_get]; congr 1; omega
    have lbb : (layL B)[127 - k]'(by rw [layL_length]; omega) = B.testBit k := by rw [layL_get]; congr 1; omega
    refine ⟨fun l hr => hr = h11 ∧ l = [vI (A.testBit k).toNat], ⟨by omega, by omega, A.testBit k, by rw [← la]; exact bit_get d3 (by rw [layL_length]; omega), fun hb => ⟨1, rfl, rfl, by rw [hb]; rfl⟩, fun hb => ⟨rfl, by rw [hb]; rfl⟩⟩, ?_⟩
    rintro n1 h11' ⟨rfl, hl⟩
    cases hl
    refine ⟨fun l hr => hr = h11' ∧ l = [vI ((A.testBit k).toNat + (B.testBit k).toNat)], ⟨by omega, by omega, B.testBit k, by rw [← lbb]; exact bit_get d4 (by rw [layL_length]; omega), fun hb => ⟨_, incI (by have := Bool.toNat_le (A.testBit k); omega), rfl, by rw [hb]; rfl⟩, fun hb => ⟨rfl, by rw [hb]; rfl⟩⟩, ?_⟩
    rintro n2 h11'' ⟨rfl, hl⟩
    cases hl
    have ha1 := Bool.toNat_le (A.testBit k)
    have hb1' := Bool.toNat_le (B.testBit k)
    have hc1 := carry_le A B k
    refine ⟨fun l hr => hr = h11'' ∧ l = [vI (carry A B k + (A.testBit k).toNat + (B.testBit k).toNat)], ⟨fun hb => ⟨_, incI (by omega), rfl, ?_⟩, fun hb => ⟨rfl, ?_⟩⟩, ?_⟩
    · have hb := of_decide_eq_true hb
      rw [hb]
      congr 3; omega
    · have hb := of_decide_eq_false hb
      rw [show carry A B k = 0 by omega, Nat.zero_add]
    rintro n3 hz ⟨rfl, hl⟩
    cases hl
    have stp : ∀ (v : Bool), v = (A + B).testBit k → wrAt hz b5 (0 + Int.toNat ((127 - k : Nat) : Int) * 1) 1 ∧ ∀ hy, hy = setsH hz b5 (0 + Int.toNat ((127 - k : Nat) : Int) * 1) [.bool v] →
        Ext h hy ∧ hy[b3]? = some (.cells ((layL A).map Value.bool).toArray 95) ∧ hy[b4]? = some (.cells ((layL B).map Value.bool).toArray 95) ∧ hy[b2]? = some (.cells #[vU 0, vU 0] 34) ∧ hy[b5]? = some (.cells ((addI (A + B) (k + 1)).map Value.bool).toArray 95) := by
      rintro v rfl
      obtain ⟨q1, q2⟩ := bit_set d5 (i := 127 - k) (by rw [addI_length]; omega) ((A + B).testBit k)
      refine ⟨q1, ?_⟩
      rintro hy rfl
      rw [addI_step _ hlt] at q2
      exact ⟨x11.over (setsH_same (B := fun x => x = b5) rfl) fun x hx => by omega, (setsH_ne (by omega)).trans d3, (setsH_ne (by omega)).trans d4, (setsH_ne (by omega)).trans d2, q2⟩
    have ecar : decide ((1 : Int) < ((carry A B k + (A.testBit k).toNat + (B.testBit k).toNat : Nat) : Int)) = decide (carry A B (k + 1) = 1) := by
      rw [carry_step]
      apply decide_eq_decide.2; omega
    have enx : IntKind.i64.wrap (((127 - k : Nat) : Int) - 1) = (127 : Int) - ((k + 1 : Nat) : Int) := by rw [wrapI64] <;> omega
    refine ⟨fun h1 => ?_, fun h1 => ?_⟩
    · have h1 := of_decide_eq_true h1
      obtain ⟨q1, q2⟩ := stp true (by rw [sum_bit]; symm; apply decide_eq_true; omega)
      refine ⟨by omega, by omega, rfl, q1, fun hy ey => ⟨_, enx, ⟨k + 1, hlt, by rw [ecar], q2 hy ey⟩, by simp only [numAt]; omega⟩⟩
    · have h1 := of_decide_eq_false h1
      obtain ⟨q1, q2⟩ := stp (decide (((carry A B k + (A.testBit k).toNat + (B.testBit k).toNat : Nat) : Int) = 3)) (by rw [sum_bit]; apply decide_eq_decide.2; omega)
      refine ⟨by omega, by omega, rfl, q1, fun hy ey => ⟨_, enx, ⟨k + 1, hlt, by rw [ecar], q2 hy ey⟩, by simp only [numAt]; omega⟩⟩
  · have hk128 : k = 128 := by have := of_decide_eq_false hge; omega
    subst hk128
    rw [addI_all] at d5
    have hm : (A + B) % 2 ^ 128 < 2 ^ 128 := Nat.mod_lt _ (by decide)
    refine ⟨layL ((A + B) % 2 ^ 128), layL_length _, cellsAt_all d5, (qtake_c _ hm h11).mono ?_⟩
    rintro e h12 ⟨x12, rfl⟩
    refine ⟨_, _, rfl, (qcut_c _ hm 128 (by decide) (by decide) h12).mono ?_⟩
    rintro e h13 ⟨x13, rfl⟩
    rw [Nat.mod_mod]
    have d2' := ((x12.trans x13).old b2 (Array.getElem?_eq_some_iff.1 d2).1).trans d2
    exact ⟨_, _, rfl, bits_put ((x11.trans x12).trans x13) d2' (by omega) _ _ fun h8 x8 => ⟨x8, rfl⟩⟩

/-- turnoutref01.more, of a byte -/
theorem qmore_c (A : Nat) (hA : A < 2 ^ 128) (n : Nat) (hn : n < 256) (h : Hp) : CallsH Try.prog 74 #[bv A, vI 256, vI n] h fun e h' => Ext h h' ∧ e = .returned (bv ((256 * A + n) % 2 ^ 128)) := by
  refine V74 _ _ _ _ h _ ?_
  intro b h1 hb e1
  have x1 : Ext h h1 := by rw [e1]; exact Ext.push _ _
  have c1 : h1[b]? = some (.cells #[vU (A / 2 ^ 64), vU (A % 2 ^ 64)] 34) := by rw [e1, hb]; exact push_last
  have s1 : h1.size = h.size + 1 := by rw [e1]; simp
  clear e1
  intro b1 h2 hb1 e2
  have x2 : Ext h1 h2 := by rw [e2]; exact Ext.push _ _
  have c2 : h2[b1]? = some (.cells #[vU 0, vU 0] 34) := by rw [e2, hb1, zerosBits]; exact push_last
  have s2 : h2.size = h1.size + 1 := by rw [e2]; simp
  clear e2
  refine ⟨infoBits, (n : Int), by rw [wrapU64]; omega, ?_⟩
  intro b2 h3 hb2 e3
  have x3 : Ext h2 h3 := by rw [e3]; exact Ext.push _ _
  have c3 : h3[b2]? = some (.cells #[vU 0, vU 0] 34) := by rw [e3, hb2, zerosBits]; exact push_last
  have s3 : h3.size = h2.size + 1 := by rw [e3]; simp
  clear e3
  obtain ⟨p1, p2, p3, p4⟩ := two_put c3 0 (n : Int)
  refine ⟨infoBits, p1, p2, p3, fun h4 e4 => ?_⟩
  have hS : (0 * A + n) % 2 ^ 128 = n := by omega
  have c4 : h4[b2]? = some (.cells #[vU ((0 * A + n) % 2 ^ 128 / 2 ^ 64), vU ((0 * A + n) % 2 ^ 128 % 2 ^ 64)] 34) := by
    rw [hS, Nat.div_eq_of_lt (show n < 2 ^ 64 by omega), Nat.mod_eq_of_lt (show n < 2 ^ 64 by omega), e4]; exact p4
  have c40 : h4[b]? = some (.cells #[vU (A / 2 ^ 64), vU (A % 2 ^ 64)] 34) := by rw [e4]; exact (setsH_ne (by omega)).trans ((x3.old b (by omega)).trans ((x2.old b (by omega)).trans c1))
  have c41 : h4[b1]? = some (.cells #[vU 0, vU 0] 34) := by rw [e4]; exact (setsH_ne (by omega)).trans ((x3.old b1 (by omega)).trans c2)
  have x4 : Ext h h4 := by rw [e4]; exact ((x1.trans x2).trans x3).over (setsH_same (B := fun x => x = b2) rfl) fun x hx => by omega
  clear e4 p1 p2 p3 p4
  refine ⟨fun l hr => ∃ i : Nat, i ≤ 256 ∧ l = [vI i] ∧ Ext h hr ∧ hr[b]? = some (.cells #[vU (A / 2 ^ 64), vU (A % 2 ^ 64)] 34) ∧ hr[b1]? = some (.cells #[vU 0, vU 0] 34) ∧ hr[b2]? = some (.cells #[vU ((i * A + n) % 2 ^ 128 / 2 ^ 64), vU ((i * A + n) % 2 ^ 128 % 2 ^ 64)] 34), fun l _ => (256 - numAt l 0).toNat,
    ⟨0, by decide, rfl, x4, c40, c41, c4⟩, ?_⟩
  clear c4 c40 c41
  rintro iv h5 ⟨i, hi, hl, x5, d0, d1, d2⟩
  cases hl
  obtain ⟨S, hS⟩ : ∃ S, S = (i * A + n) % 2 ^ 128 := ⟨_, rfl⟩
  have hSl : S < 2 ^ 128 := by rw [hS]; exact Nat.mod_lt _ (by decide)
  refine ⟨fun hlt => ?_, fun hge => ?_⟩
  · have hlt : i < 256 := by have := of_decide_eq_true hlt; omega
    rw [← hS] at d2
    refine ⟨_, _, cellsAt_all (vs := [vU (S / 2 ^ 64), vU (S % 2 ^ 64)]) d2, _, _, cellsAt_all (vs := [vU (A / 2 ^ 64), vU (A % 2 ^ 64)]) d0, (qadd_c S A hSl hA h5).mono ?_⟩
    rintro e h6 ⟨x6, rfl⟩
    have f0 := (x6.old b (Array.getElem?_eq_some_iff.1 d0).1).trans d0
    have f1 := (x6.old b1 (Array.getElem?_eq_some_iff.1 d1).1).trans d1
    have f2 := (x6.old b2 (Array.getElem?_eq_some_iff.1 d2).1).trans d2
    have eS : (S + A) % 2 ^ 128 = ((i + 1) * A + n) % 2 ^ 128 := by
      rw [hS, Nat.succ_mul, Nat.mod_add_mod]; congr 1; omega
    rw [eS]
    obtain ⟨p1, p2, p3, p4⟩ := two_put f2 ((((i + 1) * A + n) % 2 ^ 128 / 2 ^ 64 : Nat) : Int) ((((i + 1) * A + n) % 2 ^ 128 % 2 ^ 64 : Nat) : Int)
    refine ⟨_, _, rfl, p1, p2, p3, fun h7 e7 => ⟨_, incI (by omega), ⟨i + 1, hlt, rfl, ?_, ?_, ?_, ?_⟩, by simp only [numAt]; omega⟩⟩
    · rw [e7]; exact (x5.trans x6).over (setsH_same (B := fun x => x = b2) rfl) fun x hx => by omega
    · rw [e7]; exact (setsH_ne (by omega)).trans f0
    · rw [e7]; exact (setsH_ne (by omega)).trans f1
    · rw [e7]; exact p4
  · have hi6 : i = 256 := by have := of_decide_eq_false hge; omega
    subst hi6
    exact ⟨_, _, cellsAt_all (vs := [vU ((256 * A + n) % 2 ^ 128 / 2 ^ 64), vU ((256 * A + n) % 2 ^ 128 % 2 ^ 64)]) d2, bits_put x5 d1 (by omega) _ _ fun h8 x8 => ⟨x8, rfl⟩⟩

/-- turnoutref01.From -/
theorem qfrom_c (s : ByteArray) (w : Int) (h : Hp) : CallsH Try.prog 68 #[.string s, vZ w] h fun e h' => Ext h h' ∧ e = .returned (.tuple #[bv (fromF (bl s) w).1, vZ (fromF (bl s) w).2]) := by
  refine V68 _ _ h _ ?_
  intro b h1 hb e1
  have x1 : Ext h h1 := by rw [e1]; exact Ext.push _ _
  have c1 : h1[b]? = some (.cells #[vU 0, vU 0] 34) := by rw [e1, hb, zerosBits]; exact push_last
  have s1 : h1.size = h.size + 1 := by rw [e1]; simp
  clear e1
  refine ⟨infoBits, (qwidth_c w h1).mono ?_⟩
  rintro e h1 ⟨rfl, rfl⟩
  refine ⟨_, rfl, fun hw => bits_put x1 c1 (by omega) 0 0 fun h3 x3 => ⟨x3, ?_⟩, fun hw => ?_⟩
  · have hw : isW w = false := by simpa using hw
    unfold fromF; rw [if_pos hw]; rfl
  have hw : isW w = true := by simpa using hw
  obtain ⟨w0, w1⟩ := isW_iff.1 hw
  obtain ⟨m, rfl⟩ := Int.eq_ofNat_of_zero_le (show 0 ≤ w by omega)
  obtain ⟨k, hk⟩ : ∃ k, k = (m + 7) / 8 := ⟨_, rfl⟩
  have hk1 : 1 ≤ k := by omega
  have hk16 : k ≤ 16 := by omega
  refine (qlong_c m (by omega) h1).mono ?_
  rintro e h1 ⟨rfl, rfl⟩
  rw [← hk]
  refine ⟨_, rfl, fun hl => bits_put x1 c1 (by omega) 0 0 fun h3 x3 => ⟨x3, ?_⟩, fun hl => ?_⟩
  · have hl : (bl s).length ≠ k := by have := of_decide_eq_true hl; rw [bl_length]; omega
    unfold fromF; rw [if_neg (by rw [hw]; simp), Int.toNat_natCast, ← hk, if_pos hl]; rfl
  have hl : s.size = k := by have := of_decide_eq_false hl; omega
  have hbl : (bl s).length = k := by rw [bl_length]; exact hl
  intro b2 h2 hb2 e2
  have x2 : Ext h1 h2 := by rw [e2]; exact Ext.push _ _
  have c2 : h2[b2]? = some (.cells #[vU 0, vU 0] 34) := by rw [e2, hb2, zerosBits]; exact push_last
  clear e2
  have hb2 : b2 = h1.size := hb2
  have cb := (x2.old b (Array.getElem?_eq_some_iff.1 c1).1).trans c1
  have sx1 := x1.size
  have lbb : b < h1.size := (Array.getElem?_eq_some_iff.1 c1).1
  obtain ⟨p1, p2, p3, p4⟩ := two_put c2 0 0
  refine ⟨infoBits, p1, p2, p3, ?_⟩
  intro h3 e3
  have c3 : h3[b2]? = some (.cells #[vU 0, vU 0] 34) := by rw [e3]; exact p4
  have cb3 : h3[b]? = some (.cells #[vU 0, vU 0] 34) := by rw [e3]; exact (setsH_ne (by omega)).trans cb
  have x3 : Ext h h3 := by rw [e3]; exact (x1.trans x2).over (setsH_same (B := fun x => x = b2) rfl) fun x hx => by omega
  clear e3 p1 p2 p3 p4
  have hlt : ∀ j, numL ((bl s).take j) < 2 ^ 128 := fun j => by
    have h0 := numL_lt ((bl s).take j)
    rw [List.length_take, hbl] at h0
    exact Nat.lt_of_lt_of_le h0 (by rw [show (2 : Nat) ^ 128 = 256 ^ 16 from rfl]; exact Nat.pow_le_pow_right (by decide) (by omega))
  refine ⟨fun l hr => ∃ i : Nat, i ≤ k ∧ l = [vI i] ∧ Ext h hr ∧ hr[b]? = some (.cells #[vU 0, vU 0] 34) ∧ hr[b2]? = some (.cells #[vU (numL ((bl s).take i) / 2 ^ 64), vU (numL ((bl s).take i) % 2 ^ 64)] 34), fun l _ => (k - numAt l 0).toNat,
    ⟨0, Nat.zero_le _, rfl, x3, cb3, by rw [show numL ((bl s).take 0) = 0 from rfl]; exact c3⟩, ?_⟩
  rintro iv h4 ⟨i, hi, hl', x4, cb4, c4⟩
  cases hl'
  refine ⟨fun hlti => ?_, fun hge => ?_⟩
  · have hlti : i < k := by have := of_decide_eq_true hlti; omega
    have hnext := numL_take (l := bl s) (i := i) (by omega)
    have hn1 := hlt (i + 1)
    obtain ⟨A, hA⟩ : ∃ A, A = numL ((bl s).take i) := ⟨_, rfl⟩
    have hAl : A < 2 ^ 128 := by rw [hA]; exact hlt i
    rw [← hA] at c4 hnext
    have hby : s[i]? = some ((bl s)[i]'(by omega)) := by
      rw [byteD (by omega)]
      rw [List.getD_eq_getElem?_getD, List.getElem?_eq_getElem (by omega)]; rfl
    obtain ⟨cc, hcc⟩ : ∃ cc, cc = (bl s)[i]'(by omega) := ⟨_, rfl⟩
    rw [← hcc] at hby hnext
    have hc256 : cc.toNat < 256 := cc.toNat_lt
    refine ⟨_, _, cellsAt_all (vs := [vU (A / 2 ^ 64), vU (A % 2 ^ 64)]) c4, by omega, cc, hby, (cc.toNat : Int), by rw [wrapI64] <;> omega, (qmore_c A hAl cc.toNat hc256 h4).mono ?_⟩
    rintro e h5 ⟨x5, rfl⟩
    rw [← hnext, Nat.mod_eq_of_lt hn1]
    have f0 := (x5.old b (Array.getElem?_eq_some_iff.1 cb4).1).trans cb4
    have f2 := (x5.old b2 (Array.getElem?_eq_some_iff.1 c4).1).trans c4
    obtain ⟨p1, p2, p3, p4⟩ := two_put f2 ((numL ((bl s).take (i + 1)) / 2 ^ 64 : Nat) : Int) ((numL ((bl s).take (i + 1)) % 2 ^ 64 : Nat) : Int)
    refine ⟨_, _, rfl, p1, p2, p3, fun h7 e7 => ⟨_, incI (by omega), ⟨i + 1, hlti, rfl, ?_, ?_, ?_⟩, by simp only [numAt]; omega⟩⟩
    · rw [e7]; exact (x4.trans x5).over (setsH_same (B := fun x => x = b2) rfl) fun x hx => by omega
    · rw [e7]; exact (setsH_ne (by omega)).trans f0
    · rw [e7]; exact p4
  · have hik : i = k := by have := of_decide_eq_false hge; omega
    subst hik
    have et : (bl s).take i = bl s := List.take_of_length_le (by omega)
    rw [et] at c4
    have hN : numL (bl s) < 2 ^ 128 := by rw [← et]; exact hlt i
    refine ⟨_, _, cellsAt_all (vs := [vU (numL (bl s) / 2 ^ 64), vU (numL (bl s) % 2 ^ 64)]) c4, (rfits_c _ hN _ h4).mono ?_⟩
    rintro e h5 ⟨x5, rfl⟩
    have f0 := (x5.old b (Array.getElem?_eq_some_iff.1 cb4).1).trans cb4
    have f2 := (x5.old b2 (Array.getElem?_eq_some_iff.1 c4).1).trans c4
    refine ⟨_, rfl, fun hf => bits_put (x4.trans x5) f0 (by omega) 0 0 fun h3 x3 => ⟨x3, ?_⟩, fun hf => ?_⟩
    · have hf : fitsN (numL (bl s)) (m : Int) = false := by simpa using hf
      unfold fromF; rw [if_neg (by rw [hw]; simp), Int.toNat_natCast, ← hk, if_neg (by omega), if_pos hf]; rfl
    · have hf : fitsN (numL (bl s)) (m : Int) = true := by simpa using hf
      refine ⟨_, _, cellsAt_all (vs := [vU (numL (bl s) / 2 ^ 64), vU (numL (bl s) % 2 ^ 64)]) f2, bits_put (x4.trans x5) f0 (by omega) _ _ fun h3 x3 => ⟨x3, ?_⟩⟩
      unfold fromF; rw [if_neg (by rw [hw]; simp), Int.toNat_natCast, ← hk, if_neg (by omega), if_neg (by rw [hf]; simp)]; rfl

end Go.Vc
