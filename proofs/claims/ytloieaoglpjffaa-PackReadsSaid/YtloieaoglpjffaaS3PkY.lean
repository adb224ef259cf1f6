/- The document's values: rows of bits. -/
import Derived.Test.YtloieaoglpjffaaS3PkA
import Derived.Test.YtloieaoglpjffaaBtM
set_option maxRecDepth 10000
namespace Go.Vc
open Go Go.Proofs

theorem zerosRow : zeros Try.prog 95 = ((List.replicate 128 false).map Value.bool).toArray := by kernel_rfl
theorem infoRow : ∃ i z, Try.prog.info? 95 = some i ∧ i.zero = some z := by
  have : ((Try.prog.info? 95).bind (·.zero)).isSome = true := by kernel_rfl
  obtain ⟨z, hz⟩ := Option.isSome_iff_exists.1 this
  obtain ⟨i, hi, hz⟩ := Option.bind_eq_some_iff.1 hz
  exact ⟨i, z, hi, hz⟩

section
variable {h : Hp} {b : Nat} {t : TypeId} {L : List Bool}

theorem bit_set (c : h[b]? = some (.cells (L.map Value.bool).toArray t)) {i : Nat} (hi : i < L.length) (v : Bool) :
    wrAt h b (0 + Int.toNat (i : Int) * 1) 1 ∧ (setsH h b (0 + Int.toNat (i : Int) * 1) [.bool v])[b]? = some (.cells ((L.set i v).map Value.bool).toArray t) := by
  have e : 0 + Int.toNat (i : Int) * 1 = i := by simp
  rw [e]
  refine ⟨wrAt_of c (by simp; omega) (.inl (Nat.zero_le _)), ?_⟩
  rw [setsH_at c]
  simp [layC, List.map_set]

theorem bit_get (c : h[b]? = some (.cells (L.map Value.bool).toArray t)) {i : Nat} (hi : i < L.length) : cellsAt h b (0 + Int.toNat (i : Int) * 1) [.bool L[i]] := by
  have e : 0 + Int.toNat (i : Int) * 1 = i := by simp
  rw [e]
  refine cellsAt_of c fun j hj => ?_
  have hj0 : j = 0 := by simpa using hj
  subst hj0
  simp [hi]

theorem row_one (L : List Bool) : ∀ c ∈ L.map Value.bool, c.oneCell' = true := by
  intro c hc
  obtain ⟨v, _, rfl⟩ := List.mem_map.1 hc
  rfl

theorem row_put {M : List Bool} (c : h[b]? = some (.cells (L.map Value.bool).toArray t)) (hl : L.length = 128) (hm : M.length = 128) :
    wrAt h b 0 128 ∧ (setsH h b 0 (M.map Value.bool))[b]? = some (.cells (M.map Value.bool).toArray t) := by
  have := all_set c (M.map Value.bool) (by simp [hl, hm])
  rw [List.length_map, hm] at this
  exact this

end

/-- turnoutref01.lay -/
theorem qlay_c (N : Nat) (hN : N < 2 ^ 128) (h : Hp) : CallsH Try.prog 77 #[bv N] h fun e h' => Ext h h' ∧ e = .returned (.agg ((layL N).map Value.bool).toArray) := by
  refine V77 _ _ h _ ?_
  intro b h1 hb e1
  have x1 : Ext h h1 := by rw [e1]; exact Ext.push _ _
  have c1 : h1[b]? = some (.cells #[vU (N / 2 ^ 64), vU (N % 2 ^ 64)] 34) := by rw [e1, hb]; exact push_last
  have s1 : h1.size = h.size + 1 := by rw [e1]; simp
  clear e1
  intro b1 h2 hb1 e2
  have x2 : Ext h1 h2 := by rw [e2]; exact Ext.push _ _
  have c2 : h2[b1]? = some (.cells ((List.replicate 128 false).map Value.bool).toArray 95) := by rw [e2, hb1, zerosRow]; exact push_last
  have s2 : h2.size = h1.size + 1 := by rw [e2]; simp
  clear e2
  refine ⟨infoRow, ?_⟩
  intro b2 h3 hb2 e3
  have x3 : Ext h2 h3 := by rw [e3]; exact Ext.push _ _
  have c3 : h3[b2]? = some (.cells ((layI N 0).map Value.bool).toArray 95) := by rw [e3, hb2, zerosRow, layI_zero]; exact push_last
  clear e3
  refine ⟨infoRow, fun l hr => ∃ i : Nat, i ≤ 64 ∧ l = [vI i] ∧ Ext h hr ∧ hr[b]? = some (.cells #[vU (N / 2 ^ 64), vU (N % 2 ^ 64)] 34) ∧ hr[b1]? = some (.cells ((List.replicate 128 false).map Value.bool).toArray 95) ∧ hr[b2]? = some (.cells ((layI N i).map Value.bool).toArray 95), fun l _ => (64 - numAt l 0).toNat,
    ⟨0, by decide, rfl, (x1.trans x2).trans x3, (x3.old b (by omega)).trans ((x2.old b (by omega)).trans c1), (x3.old b1 (by omega)).trans c2, c3⟩, ?_⟩
  rintro iv h4 ⟨i, hi, hl, x4, cb, cb1, cb2⟩
  cases hl
  have hd := div128 hN
  refine ⟨fun hlt => ?_, fun hge => ?_⟩
  · have hlt : i < 64 := by simp at hlt; omega
    obtain ⟨p1, p2⟩ := bit_set cb2 (i := 63 - i) (by rw [layI_length]; omega) (N.testBit (64 + i))
    have eA : IntKind.u64.wrap (i : Int) = (i : Int) := by rw [wrapU64]; omega
    refine ⟨((63 - i : Nat) : Int), by rw [wrapI64] <;> omega, _, cellsAt_one (cellH_at cb), (i : Int), eA, by omega, _, sr64n (by omega), _, and1 (Nat.lt_of_le_of_lt (Nat.div_le_self _ _) hd), by omega, by omega, rfl, p1, fun h5 e5 => ?_⟩
    rw [bit_hi] at e5
    have cb5 : h5[b]? = some (.cells #[vU (N / 2 ^ 64), vU (N % 2 ^ 64)] 34) := by rw [e5]; exact (setsH_ne (by omega)).trans cb
    have cb15 : h5[b1]? = some (.cells ((List.replicate 128 false).map Value.bool).toArray 95) := by rw [e5]; exact (setsH_ne (by omega)).trans cb1
    rw [← e5] at p2
    have x5 : Ext h h5 := by rw [e5]; exact x4.over (setsH_same (B := fun x => x = b2) rfl) fun x hx => by omega
    clear e5
    obtain ⟨p3, p4⟩ := bit_set p2 (i := 127 - i) (by rw [List.length_set, layI_length]; omega) (N.testBit i)
    refine ⟨((127 - i : Nat) : Int), by rw [wrapI64] <;> omega, _, cellsAt_one (cellH_at cb5), (i : Int), eA, by omega, _, sr64n (by omega), _, and1 (Nat.lt_of_le_of_lt (Nat.div_le_self _ _) (Nat.mod_lt _ (by decide))), by omega, by omega, rfl, p3, fun h6 e6 => ?_⟩
    rw [bit_lo N hlt] at e6
    rw [← e6, layI_step N hlt] at p4
    refine ⟨_, incI (by omega), ⟨i + 1, hlt, rfl, ?_, ?_, ?_, p4⟩, by simp only [numAt]; omega⟩
    · rw [e6]; exact x5.over (setsH_same (B := fun x => x = b2) rfl) fun x hx => by omega
    · rw [e6]; exact (setsH_ne (by omega)).trans cb5
    · rw [e6]; exact (setsH_ne (by omega)).trans cb15
  · have hik : i = 64 := by simp at hge; omega
    subst hik
    rw [layI_all] at cb2
    obtain ⟨p1, p2⟩ := row_put (M := layL N) cb1 (by simp) (layL_length N)
    refine ⟨layL N, layL_length N, cellsAt_all cb2, by simp [layL_length], row_one _, p1, fun h5 e5 => ⟨layL N, layL_length N, ?_, ?_, rfl⟩⟩
    · rw [e5]; exact cellsAt_all p2
    · rw [e5]; exact x4.over (setsH_same (B := fun x => x = b1) rfl) fun x hx => by omega

/-- turnoutref01.take -/
theorem qtake_c (N : Nat) (hN : N < 2 ^ 128) (h : Hp) : CallsH Try.prog 78 #[.agg ((layL N).map Value.bool).toArray] h fun e h' => Ext h h' ∧ e = .returned (bv N) := by
  refine V78 _ h _ ?_
  intro b h1 hb e1
  have x1 : Ext h h1 := by rw [e1]; exact Ext.push _ _
  have c1 : h1[b]? = some (.cells ((layL N).map Value.bool).toArray 95) := by rw [e1, hb]; exact push_last
  have s1 : h1.size = h.size + 1 := by rw [e1]; simp
  clear e1
  intro b1 h2 hb1 e2
  have x2 : Ext h1 h2 := by rw [e2]; exact Ext.push _ _
  have c2 : h2[b1]? = some (.cells #[vU 0, vU 0] 34) := by rw [e2, hb1, zerosBits]; exact push_last
  have s2 : h2.size = h1.size + 1 := by rw [e2]; simp
  clear e2
  refine ⟨infoBits, ?_⟩
  intro b2 h3 hb2 e3
  have x3 : Ext h2 h3 := by rw [e3]; exact Ext.push _ _
  have c3 : h3[b2]? = some (.cells #[vU 0, vU 0] 34) := by rw [e3, hb2, zerosBits]; exact push_last
  clear e3
  obtain ⟨p1, p2, p3, p4⟩ := two_put c3 0 0
  refine ⟨infoBits, p1, p2, p3, fun h4 e4 => ?_⟩
  have c4 : h4[b2]? = some (.cells #[vU (N / 2 ^ 128), vU (N % 2 ^ 64 / 2 ^ 64)] 34) := by
    rw [Nat.div_eq_of_lt hN, Nat.div_eq_of_lt (Nat.mod_lt N (by decide)), e4]; exact p4
  refine ⟨fun l hr => ∃ i : Nat, i ≤ 64 ∧ l = [vI i] ∧ Ext h hr ∧ hr[b]? = some (.cells ((layL N).map Value.bool).toArray 95) ∧ hr[b1]? = some (.cells #[vU 0, vU 0] 34) ∧ hr[b2]? = some (.cells #[vU (N / 2 ^ (128 - i)), vU (N % 2 ^ 64 / 2 ^ (64 - i))] 34), fun l _ => (64 - numAt l 0).toNat,
    ⟨0, by decide, rfl, ?_, ?_, ?_, c4⟩, ?_⟩
  · rw [e4]; exact ((x1.trans x2).trans x3).over (setsH_same (B := fun x => x = b2) rfl) fun x hx => by omega
  · rw [e4]; exact (setsH_ne (by omega)).trans ((x3.old b (by omega)).trans ((x2.old b (by omega)).trans c1))
  · rw [e4]; exact (setsH_ne (by omega)).trans ((x3.old b1 (by omega)).trans c2)
  clear c4 e4 p4 p3 p1 p2
  rintro iv h5 ⟨i, hi, hl, x5, cb, cb1, cb2⟩
  cases hl
  refine ⟨fun hlt => ?_, fun hge => ?_⟩
  · have hlt : i < 64 := by simp at hlt; omega
    obtain ⟨k, hk⟩ : ∃ k, k = 63 - i := ⟨_, rfl⟩
    have ek1 : 128 - i = 64 + k + 1 := by omega
    have ek2 : 64 - i = k + 1 := by omega
    have ek3 : 128 - (i + 1) = 64 + k := by omega
    have ek4 : 64 - (i + 1) = k := by omega
    rw [ek1, ek2] at cb2
    have dA := div_bit N (64 + k)
    have dB := div_bit (N % 2 ^ 64) k
    have hA : N / 2 ^ (64 + k) < 18446744073709551616 := by
      rw [Nat.pow_add, ← Nat.div_div_eq_div_mul]
      exact Nat.lt_of_le_of_lt (Nat.div_le_self _ _) (div128 hN)
    have hB : N % 2 ^ 64 / 2 ^ k < 18446744073709551616 := Nat.lt_of_le_of_lt (Nat.div_le_self _ _) (Nat.mod_lt _ (by decide))
    have tB : (N % 2 ^ 64).testBit k = N.testBit k := by rw [Nat.testBit_mod_two_pow, decide_eq_true (by omega), Bool.true_and]
    rw [tB] at dB
    obtain ⟨A, eA⟩ : ∃ A, A = N / 2 ^ (64 + k + 1) := ⟨_, rfl⟩
    obtain ⟨B, eB⟩ : ∃ B, B = N % 2 ^ 64 / 2 ^ (k + 1) := ⟨_, rfl⟩
    rw [← eA] at cb2 dA
    rw [← eB] at cb2 dB
    obtain ⟨bA, hbA⟩ : ∃ q, q = N.testBit (64 + k) := ⟨_, rfl⟩
    obtain ⟨bB, hbB⟩ : ∃ q, q = N.testBit k := ⟨_, rfl⟩
    rw [← hbA] at dA
    rw [← hbB] at dB
    have ll := layL_length N
    have one : ∀ {hz : Hp} {u v : Int}, hz[b2]? = some (.cells #[.int .u64 u, .int .u64 v] 34) → ∀ r : Int, (wrAt hz b2 (0 + 0) 1 ∧ (setsH hz b2 (0 + 0) [.int .u64 r])[b2]? = some (.cells #[.int .u64 r, .int .u64 v] 34)) ∧ (wrAt hz b2 (0 + 1) 1 ∧ (setsH hz b2 (0 + 1) [.int .u64 r])[b2]? = some (.cells #[.int .u64 u, .int .u64 r] 34)) :=
      fun c r => ⟨⟨wrAt_of c (by show 0 + 0 + 1 ≤ 2; decide) (.inl (Nat.zero_le _)), by rw [setsH_at c]; rfl⟩, wrAt_of c (by show 0 + 1 + 1 ≤ 2; decide) (.inl (Nat.zero_le _)), by rw [setsH_at c]; rfl⟩
    have keep : ∀ {hz hy : Hp} {o : Nat} {vs : List Value}, hy = setsH hz b2 o vs → Ext h hz ∧ hz[b]? = some (.cells ((layL N).map Value.bool).toArray 95) ∧ hz[b1]? = some (.cells #[vU 0, vU 0] 34) →
        Ext h hy ∧ hy[b]? = some (.cells ((layL N).map Value.bool).toArray 95) ∧ hy[b1]? = some (.cells #[vU 0, vU 0] 34) := by
      rintro hz hy o vs rfl ⟨y1, y2, y3⟩
      exact ⟨y1.over (setsH_same (B := fun x => x = b2) rfl) fun x hx => by omega, (setsH_ne (by omega)).trans y2, (setsH_ne (by omega)).trans y3⟩
    obtain ⟨q1, q2⟩ := (one cb2 ((A * 2 : Nat) : Int)).1
    have k5 : Ext h h5 ∧ h5[b]? = some (.cells ((layL N).map Value.bool).toArray 95) ∧ h5[b1]? = some (.cells #[vU 0, vU 0] 34) := ⟨x5, cb, cb1⟩
    refine ⟨_, cellsAt_one (cellH_at cb2), ((A * 2 : Nat) : Int), by rw [wrapU64]; omega, rfl, q1, fun h6 e6 => ?_⟩
    rw [← e6] at q2
    have k6 := keep e6 k5
    clear e6
    obtain ⟨q3, q4⟩ := (one q2 ((B * 2 : Nat) : Int)).2
    refine ⟨_, cellsAt_one (cellH_at q2), ((B * 2 : Nat) : Int), by rw [wrapU64]; omega, rfl, q3, fun h7 e7 => ?_⟩
    rw [← e7] at q4
    have k7 := keep e7 k6
    clear e7
    have g1 : (layL N)[i]'(by omega) = bA := by rw [layL_get, hbA]; congr 1; omega
    have g2 : (layL N)[64 + i]'(by omega) = bB := by rw [layL_get, hbB]; congr 1; omega
    refine ⟨fun l hr => l = [] ∧ (Ext h hr ∧ hr[b]? = some (.cells ((layL N).map Value.bool).toArray 95) ∧ hr[b1]? = some (.cells #[vU 0, vU 0] 34)) ∧ hr[b2]? = some (.cells #[vU (N / 2 ^ (64 + k)), vU (B * 2)] 34), ⟨by omega, by omega, bA, by rw [← g1]; exact bit_get k7.2.1 (by omega), fun hb => ?_, fun hb => ?_⟩, ?_⟩
    · obtain ⟨q5, q6⟩ := (one q4 ((A * 2 + 1 : Nat) : Int)).1
      refine ⟨_, cellsAt_one (cellH_at q4), ((A * 2 + 1 : Nat) : Int), ?_, rfl, q5, fun h8 e8 => ⟨rfl, keep e8 k7, ?_⟩⟩
      · rw [hb] at dA
        have : N / 2 ^ (64 + k) = 2 * A + 1 := dA
        rw [wrapU64]; omega
      · rw [hb] at dA
        have : N / 2 ^ (64 + k) = A * 2 + 1 := by rw [dA]; show 2 * A + 1 = _; omega
        rw [e8, this]; exact q6
    · rw [hb] at dA
      have : N / 2 ^ (64 + k) = A * 2 := by rw [dA]; show 2 * A + 0 = _; omega
      exact ⟨rfl, k7, by rw [this]; exact q4⟩
    rintro h8 ⟨_, k8, q8⟩
    refine ⟨((64 + i : Nat) : Int), by rw [wrapI64] <;> omega, by omega, by omega, bB, by rw [← g2]; exact bit_get k8.2.1 (by omega), fun hb => ?_, fun hb => ?_⟩
    · obtain ⟨q5, q6⟩ := (one q8 ((B * 2 + 1 : Nat) : Int)).2
      rw [hb] at dB
      have e9' : N % 2 ^ 64 / 2 ^ k = B * 2 + 1 := by rw [dB]; show 2 * B + 1 = _; omega
      refine ⟨_, cellsAt_one (cellH_at q8), ((B * 2 + 1 : Nat) : Int), by rw [wrapU64]; omega, rfl, q5, fun h9 e9 => ⟨_, incI (by omega), ⟨i + 1, hlt, rfl, ?_⟩, by simp only [numAt]; omega⟩⟩
      obtain ⟨r1, r2, r3⟩ := keep e9 k8
      refine ⟨r1, r2, r3, ?_⟩
      rw [ek3, ek4, e9', e9]; exact q6
    · rw [hb] at dB
      have e9' : N % 2 ^ 64 / 2 ^ k = B * 2 := by rw [dB]; show 2 * B + 0 = _; omega
      refine ⟨_, incI (by omega), ⟨i + 1, hlt, rfl, k8.1, k8.2.1, k8.2.2, ?_⟩, by simp only [numAt]; omega⟩
      rw [ek3, ek4, e9']; exact q8
  · have hik : i = 64 := by simp at hge; omega
    subst hik
    rw [show 128 - 64 = 64 from rfl, show 64 - 64 = 0 from rfl, Nat.pow_zero, Nat.div_one] at cb2
    exact ⟨_, _, cellsAt_all (vs := [vU (N / 2 ^ 64), vU (N % 2 ^ 64)]) cb2, bits_put x5 cb1 (by omega) _ _ fun h6 x6 => ⟨x6, rfl⟩⟩

/-- turnoutref01.Width -/
theorem qwidth_c (w : Int) (h : Hp) : CallsH Try.prog 66 #[vZ w] h fun e h' => h' = h ∧ e = .returned (.bool (isW w)) := by
  refine V66 _ h _ ⟨isW w, ⟨fun h1 => ⟨rfl, ?_⟩, fun h1 => ⟨rfl, ?_⟩⟩, rfl, rfl⟩
  · have h1 := of_decide_eq_true h1
    simp [isW, h1]
  · have h1 := of_decide_eq_false h1
    simp [isW, h1]

/-- turnoutref01.Long -/
theorem qlong_c (w : Nat) (hw : w ≤ 128) (h : Hp) : CallsH Try.prog 67 #[vI w] h fun e h' => h' = h ∧ e = .returned (vI ((w + 7) / 8 : Nat)) := by
  have ek : IntKind.i64.wrap (Int.tdiv ((w + 7 : Nat) : Int) 8) = (((w + 7) / 8 : Nat) : Int) := by
    have : Int.tdiv ((w + 7 : Nat) : Int) 8 = (((w + 7) / 8 : Nat) : Int) := (Int.ofNat_tdiv _ 8).symm
    rw [this, wrapI64] <;> omega
  exact V67 _ h _ ⟨((w + 7 : Nat) : Int), by rw [wrapI64] <;> omega, by decide, _, ek, rfl, rfl⟩

/-- turnoutref01.Cut, of a width that is one -/
theorem qcut_c (N : Nat) (hN : N < 2 ^ 128) (w : Nat) (hw1 : 1 ≤ w) (hw : w ≤ 128) (h : Hp) : CallsH Try.prog 75 #[bv N, vI w] h fun e h' => Ext h h' ∧ e = .returned (bv (N % 2 ^ w)) := by
  refine V75 _ _ _ h _ ?_
  intro b h1 hb e1
  have x1 : Ext h h1 := by rw [e1]; exact Ext.push _ _
  have c1 : h1[b]? = some (.cells #[vU (N / 2 ^ 64), vU (N % 2 ^ 64)] 34) := by rw [e1, hb]; exact push_last
  have s1 : h1.size = h.size + 1 := by rw [e1]; simp
  clear e1
  intro b1 h2 hb1 e2
  have x2 : Ext h1 h2 := by rw [e2]; exact Ext.push _ _
  have c2 : h2[b1]? = some (.cells #[vU 0, vU 0] 34) := by rw [e2, hb1, zerosBits]; exact push_last
  have s2 : h2.size = h1.size + 1 := by rw [e2]; simp
  clear e2
  have isw : isW (w : Int) = true := isW_iff.2 ⟨by omega, by omega⟩
  refine ⟨infoBits, (qwidth_c w h2).mono ?_⟩
  rintro e h2' ⟨rfl, rfl⟩
  refine ⟨_, rfl, fun hf => (by rw [isw] at hf; cases hf), fun _ => ?_⟩
  refine ⟨_, _, cellsAt_all (vs := [vU (N / 2 ^ 64), vU (N % 2 ^ 64)]) ((x2.old b (by omega)).trans c1), (qlay_c N hN _).mono ?_⟩
  rintro e h3 ⟨x3, rfl⟩
  refine ⟨layL N, layL_length N, rfl, ?_⟩
  intro b2 h4 hb2 e4
  have x4 : Ext h3 h4 := by rw [e4]; exact Ext.push _ _
  have c4 : h4[b2]? = some (.cells ((List.replicate 128 false).map Value.bool).toArray 95) := by rw [e4, hb2, zerosRow]; exact push_last
  have cb1 : h4[b1]? = some (.cells #[vU 0, vU 0] 34) := (x4.old b1 (by have := x3.size; omega)).trans ((x3.old b1 (by omega)).trans c2)
  have lb2 : h2'.size ≤ b2 := by have := x3.size; omega
  clear e4
  obtain ⟨p1, p2⟩ := row_put (M := layL N) c4 (by simp) (layL_length N)
  have x04 : Ext h h4 := ((x1.trans x2).trans x3).trans x4
  refine ⟨infoRow, by simp [layL_length], row_one _, p1, fun h5 e5 => ?_⟩
  rw [← e5, ← cutI_zero] at p2
  have x5 : Ext h h5 := by rw [e5]; exact x04.over (setsH_same (B := fun x => x = b2) rfl) fun x hx => by omega
  have cb5 : h5[b1]? = some (.cells #[vU 0, vU 0] 34) := by rw [e5]; exact (setsH_ne (by omega)).trans cb1
  refine ⟨fun l hr => ∃ i : Nat, i ≤ 128 - w ∧ l = [vI i] ∧ Ext h hr ∧ hr[b1]? = some (.cells #[vU 0, vU 0] 34) ∧ hr[b2]? = some (.cells ((cutI N i).map Value.bool).toArray 95), fun l _ => (128 - numAt l 0).toNat,
    ⟨0, Nat.zero_le _, rfl, x5, cb5, p2⟩, ?_⟩
  rintro iv h6 ⟨i, hi, hl, x6, cb6, c6⟩
  cases hl
  refine ⟨((128 - w : Nat) : Int), by rw [wrapI64] <;> omega, fun hlt => ?_, fun hge => ?_⟩
  · have hlt : i < 128 - w := by have := of_decide_eq_true hlt; omega
    obtain ⟨q1, q2⟩ := bit_set c6 (i := i) (by rw [cutI_length]; omega) false
    refine ⟨by omega, by omega, rfl, q1, fun h7 e7 => ⟨_, incI (by omega), ⟨i + 1, hlt, rfl, ?_, ?_, ?_⟩, by simp only [numAt]; omega⟩⟩
    · rw [e7]; exact x6.over (setsH_same (B := fun x => x = b2) rfl) fun x hx => by omega
    · rw [e7]; exact (setsH_ne (by omega)).trans cb6
    · rw [e7, ← cutI_step]; exact q2
  · have hik : i = 128 - w := by have := of_decide_eq_false hge; omega
    subst hik
    rw [cutI_all N hw] at c6
    have hm : N % 2 ^ w < 2 ^ 128 := Nat.lt_of_le_of_lt (Nat.mod_le _ _) hN
    refine ⟨layL (N % 2 ^ w), layL_length _, cellsAt_all c6, (qtake_c _ hm h6).mono ?_⟩
    rintro e h7 ⟨x7, rfl⟩
    have c7 := (x7.old b1 (Array.getElem?_eq_some_iff.1 cb6).1).trans cb6
    exact ⟨_, _, rfl, bits_put (x6.trans x7) c7 (by omega) _ _ fun h8 x8 => ⟨x8, rfl⟩⟩

/-- turnoutref01.Fits -/
theorem rfits_c (N : Nat) (hN : N < 2 ^ 128) (w : Int) (h : Hp) : CallsH Try.prog 73 #[bv N, vZ w] h fun e h' => Ext h h' ∧ e = .returned (.bool (fitsN N w)) := by
  refine V73 _ _ _ h _ ?_
  intro b h1 hb e1
  have x1 : Ext h h1 := by rw [e1]; exact Ext.push _ _
  have c1 : h1[b]? = some (.cells #[vU (N / 2 ^ 64), vU (N % 2 ^ 64)] 34) := by rw [e1, hb]; exact push_last
  clear e1
  refine ⟨fun hr => hr[b]? = some (.cells #[vU (N / 2 ^ 64), vU (N % 2 ^ 64)] 34), c1, (qwidth_c w h1).mono ?_⟩
  rintro e h2 ⟨rfl, rfl⟩
  refine ⟨_, rfl, c1, fun hw => ?_, fun hw => ⟨x1, by simp [fitsN, hw]⟩⟩
  obtain ⟨w0, w1⟩ := isW_iff.1 hw
  obtain ⟨m, rfl⟩ := Int.eq_ofNat_of_zero_le (show 0 ≤ w by omega)
  refine ⟨_, _, cellsAt_all (vs := [vU (N / 2 ^ 64), vU (N % 2 ^ 64)]) c1, (qcut_c N hN m (by omega) (by omega) _).mono ?_⟩
  rintro e h3 ⟨x3, rfl⟩
  refine ⟨_, _, rfl, (x3.old b (Array.getElem?_eq_some_iff.1 c1).1).trans c1, _, _, fun hr hc => cellsAt_all (vs := [vU (N / 2 ^ 64), vU (N % 2 ^ 64)]) hc, _, eqv_ints (n := 2) (k := .u64) (by kernel_rfl) [((N % 2 ^ m / 2 ^ 64 : Nat) : Int), ((N % 2 ^ m % 2 ^ 64 : Nat) : Int)] [((N / 2 ^ 64 : Nat) : Int), ((N % 2 ^ 64 : Nat) : Int)] rfl rfl, x1.trans x3, ?_⟩
  congr 2
  unfold fitsN
  rw [hw, Bool.true_and]
  apply decide_eq_decide.2
  simp only [List.cons.injEq, and_true, Int.toNat_natCast]
  rw [← mod_fits]
  generalize N % 2 ^ m = M
  omega

/-- turnoutref01.Bytes -/
theorem rbytes_c (N : Nat) (hN : N < 2 ^ 128) (w : Int) (h : Hp) : CallsH Try.prog 63 #[bv N, vZ w] h fun e h' => Ext h h' ∧ e = .returned (.tuple #[.string (tx (bytesF N w).1), vZ (bytesF N w).2]) := by
  refine V63 _ _ _ h _ ?_
  intro b h1 hb e1
  have x1 : Ext h h1 := by rw [e1]; exact Ext.push _ _
  have c1 : h1[b]? = some (.cells #[vU (N / 2 ^ 64), vU (N % 2 ^ 64)] 34) := by rw [e1, hb]; exact push_last
  have s1 : h1.size = h.size + 1 := by rw [e1]; simp
  clear e1
  refine (qwidth_c w h1).mono ?_
  rintro e h1 ⟨rfl, rfl⟩
  refine ⟨_, rfl, fun hw => ⟨x1, ?_⟩, fun hw => ?_⟩
  · have hw : isW w = false := by simpa using hw
    unfold bytesF; rw [if_pos hw]; rfl
  have hw : isW w = true := by simpa using hw
  obtain ⟨w0, w1⟩ := isW_iff.1 hw
  refine ⟨_, _, cellsAt_all (vs := [vU (N / 2 ^ 64), vU (N % 2 ^ 64)]) c1, (rfits_c N hN w _).mono ?_⟩
  rintro e h2 ⟨x2, rfl⟩
  refine ⟨_, rfl, fun hf => ⟨x1.trans x2, ?_⟩, fun hf => ?_⟩
  · have hf : fitsN N w = false := by simpa using hf
    unfold bytesF; rw [if_neg (by rw [hw]; simp), if_pos hf]; rfl
  have hf : fitsN N w = true := by simpa using hf
  obtain ⟨k, hk⟩ : ∃ k, k = (w.toNat + 7) / 8 := ⟨_, rfl⟩
  have hk1 : 1 ≤ k := by omega
  have hk16 : k ≤ 16 := by omega
  have eF : bytesF N w = (beL k N, 0) := by unfold bytesF; rw [if_neg (by rw [hw]; simp), if_neg (by rw [hf]; simp), hk]
  rw [eF]
  obtain ⟨m, rfl⟩ := Int.eq_ofNat_of_zero_le (show 0 ≤ w by omega)
  refine (qlong_c m (by omega) h2).mono ?_
  rintro e h2 ⟨rfl, rfl⟩
  have hkm : (m + 7) / 8 = k := by rw [hk]; simp
  rw [hkm]
  have c2 := (x2.old b (by omega)).trans c1
  have x02 := x1.trans x2
  have lb : b < h2.size := by have := x2.size; omega
  refine ⟨_, rfl, (k : Int) - 1, by rw [wrapI64] <;> omega, fun l hr => ∃ (j : Nat) (L : List UInt8) (q : Option Addr) (c : Nat), j ≤ k ∧ l = [.slice q L.length c, .int .i64 ((j : Int) - 1)] ∧ Ext h hr ∧ hr[b]? = some (.cells #[vU (N / 2 ^ 64), vU (N % 2 ^ 64)] 34) ∧ Own hr h2.size 5 1 (.slice q L.length c) L.length (byteVs L) ∧ h2.size ≤ hr.size ∧ L ++ beL j N = beL k N, fun l _ => (1 + numAt l 1).toNat,
    ⟨k, [], none, 0, Nat.le_refl _, rfl, x02, c2, Own.nil _ _ _ _, Nat.le_refl _, rfl⟩, ?_⟩
  rintro q1 n1 cc1 i1 h4 ⟨j, L, q, c, hj, hl, x4, c4, o4, hs4, eL⟩
  cases hl
  have hL : L.length + j = k := by
    have := congrArg List.length eL
    rw [List.length_append, beL_length, beL_length] at this; exact this
  refine ⟨fun hlt => ?_, fun hge => ?_⟩
  · obtain ⟨i, rfl⟩ : ∃ i, j = i + 1 := ⟨j - 1, by have := of_decide_eq_true hlt; omega⟩
    have ei : (((i + 1 : Nat) : Int) - 1) = (i : Int) := by omega
    rw [ei]
    have hd := div128 hN
    refine ⟨_, cellsAt_one (cellH_at c4), fun l hr => hr = h4 ∧ ∃ C : Nat, l = [vU C] ∧ C < 18446744073709551616 ∧ C / 2 ^ (8 * (i % 8)) % 256 = N / 256 ^ i % 256, ⟨fun h8 => ?_, fun h8 => ?_⟩, ?_⟩
    · have h8 : 8 ≤ i := by have := of_decide_eq_true h8; omega
      refine ⟨_, cellsAt_one (cellH_at c4), rfl, _, rfl, hd, ?_⟩
      rw [Nat.div_div_eq_div_mul, ← Nat.pow_add, show (256 : Nat) ^ i = 2 ^ (8 * i) by rw [show (256 : Nat) = 2 ^ 8 from rfl, ← Nat.pow_mul], show 64 + 8 * (i % 8) = 8 * i by omega]
    · have h8 : i < 8 := by have := of_decide_eq_false h8; omega
      refine ⟨rfl, _, rfl, Nat.mod_lt _ (by decide), ?_⟩
      rw [Nat.mod_eq_of_lt h8, show (256 : Nat) ^ i = 2 ^ (8 * i) by rw [show (256 : Nat) = 2 ^ 8 from rfl, ← Nat.pow_mul]]
      have e64 : 2 ^ 64 = 2 ^ (8 * i) * 2 ^ (64 - 8 * i) := by rw [← Nat.pow_add]; congr 1; omega
      rw [e64, Nat.mod_mul_right_div_self]
      refine Nat.mod_mod_of_dvd _ ?_
      exact ⟨2 ^ (64 - 8 * i - 8), by rw [show (256 : Nat) = 2 ^ 8 from rfl, ← Nat.pow_add]; congr 1; omega⟩
    rintro C1 h4' ⟨rfl, C, hC, hCl, hCe⟩
    cases hC
    have e1 : Int.tmod (i : Int) 8 = ((i % 8 : Nat) : Int) := rfl
    have e2 : Int.tmod ((C / 2 ^ (8 * (i % 8)) : Nat) : Int) 256 = ((C / 2 ^ (8 * (i % 8)) % 256 : Nat) : Int) := rfl
    refine ⟨by decide, ((i % 8 : Nat) : Int), e1, ((8 * (i % 8) : Nat) : Int), by rw [wrapI64] <;> omega, ((8 * (i % 8) : Nat) : Int), by rw [wrapU64]; omega, by omega, _, sr64n (by omega), by decide, _, e2, ((UInt8.ofNat (N / 256 ^ i)).toNat : Int), ?_, ?_⟩
    · rw [hCe, wrapU8, u8_nat]; omega
    refine semH_push rowB o4 (vs := [vB (UInt8.ofNat (N / 256 ^ i))]) (m := 1) rfl rfl (by simp) (by simp) (by simp [Value.oneCell']) (by omega) (by simp only [maxLen]; omega) hs4 fun p' c2 h5 o5 g5 _ b5 => ?_
    have e5 : byteVs L ++ [vB (UInt8.ofNat (N / 256 ^ i))] = byteVs (L ++ [UInt8.ofNat (N / 256 ^ i)]) := by simp [byteVs]
    have el : L.length + 1 = (L ++ [UInt8.ofNat (N / 256 ^ i)]).length := by simp
    rw [e5, el] at o5
    have x5 : Ext h h5 := x4.own o4 x02.size g5
    have c5 : h5[b]? = some (.cells #[vU (N / 2 ^ 64), vU (N % 2 ^ 64)] 34) := (g5.block b (Array.getElem?_eq_some_iff.1 c4).1 (by
      intro e
      have := (o4.lt e.symm).1
      omega)).trans c4
    refine ⟨(i : Int) - 1, by rw [wrapI64] <;> omega, ⟨i, L ++ [UInt8.ofNat (N / 256 ^ i)], p', c2, by omega, by rw [el], x5, c5, o5, Nat.le_trans hs4 g5.size, ?_⟩, by simp only [numAt]; omega⟩
    rw [List.append_assoc, List.singleton_append, ← beL_succ, eL]
  · have hj0 : j = 0 := by have := of_decide_eq_false hge; omega
    subst hj0
    rw [show beL 0 N = [] from rfl, List.append_nil] at eL
    have sg : Seg h4 q1 L.length (byteVs (tx (beL k N)).data.toList) := by
      rw [show (tx (beL k N)).data.toList = beL k N from bl_tx _, ← eL]
      exact o4.seg
    exact semH_toText uBs uB uStr sg ⟨_, rfl, x4, rfl⟩

end Go.Vc
