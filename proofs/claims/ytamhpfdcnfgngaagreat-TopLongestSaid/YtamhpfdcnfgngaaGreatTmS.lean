/- TopLongest: the stable sorting of a list's groups, walked. -/
import Derived.Test.YtamhpfdcnfgngaaGreatTmR
set_option maxRecDepth 10000
namespace Go.Vc
open Go Go.Proofs Go.MapKept

theorem halfE {P : Int → Prop} {i j : Nat} (hb : i + j < 4611686018427387904) (h : P (((i + j) / 2 : Nat) : Int)) :
    ∃ x36_, IntKind.i64.wrap ((i : Int) + (j : Int)) = x36_ ∧ ∃ x37_, IntKind.u64.wrap x36_ = x37_ ∧ 0 ≤ (1 : Int) ∧ ∃ x38_, shrI .u64 x37_ (1 : Int) = x38_ ∧ ∃ x39_, IntKind.i64.wrap x38_ = x39_ ∧ P x39_ := by
  refine ⟨((i + j : Nat) : Int), by rw [IntKind.wrap_i64]; omega, ((i + j : Nat) : Int), by rw [wrapU64]; omega, by decide, (((i + j) / 2 : Nat) : Int), ?_, (((i + j) / 2 : Nat) : Int), by rw [IntKind.wrap_i64]; omega, h⟩
  have := shr_nat .u64 (i + j) 1 (by decide)
  rw [Nat.shiftRight_eq_div_pow] at this
  exact this
theorem addE {i j : Nat} (hb : i + j < 4611686018427387904) : IntKind.i64.wrap ((i : Int) + (j : Int)) = ((i + j : Nat) : Int) := by rw [IntKind.wrap_i64]; omega
theorem subE {i j : Nat} (hj : j ≤ i) (hb : i < 4611686018427387904) : IntKind.i64.wrap ((i : Int) - (j : Int)) = ((i - j : Nat) : Int) := by rw [IntKind.wrap_i64]; omega
theorem sub1E {i : Nat} (hj : 1 ≤ i) (hb : i < 4611686018427387904) : IntKind.i64.wrap ((i : Int) - (1 : Int)) = ((i - 1 : Nat) : Int) := subE hj hb

structure AR (h0 : Hp) (gb gc n : Nat) (l0 : List Gp) (q : Hp) (l : List Gp) : Prop where
  own : Own q 0 239 1 (sl gb n gc) n (l.map fun g => vP g.bg)
  old : ∀ b, b ≠ gb → q[b]? = h0[b]?
  size : q.size = h0.size
  perm : l.Perm l0
structure SEnv (h0 : Hp) (gb n : Nat) (l0 : List Gp) : Prop where
  hn : n ≤ 1000000
  grp : ∀ g ∈ l0, g.bg ≠ gb ∧ (∃ a b c, h0[g.bg]? = some (.cells #[a, b, c, vZ g.gr] 246)) ∧ 0 ≤ g.gr ∧ g.gr ≤ 1000

section
variable {h0 q : Hp} {gb gc n : Nat} {l0 l : List Gp}

theorem AR.len (A : AR h0 gb gc n l0 q l) : l.length = n := by have := A.own.1; simpa using this
theorem AR.read (A : AR h0 gb gc n l0 q l) {i : Nat} (hi : i < n) : cellsAt q gb (0 + Int.toNat (i : Int) * 1) [vP (ga l i).bg] := by
  have hl := A.len
  have := cellsAt_iff.1 A.own.cellsA i (by simpa [hl] using hi)
  refine cellsAt_one ?_
  rw [Int.toNat_natCast, Nat.mul_one, this, List.getElem_map, ga_eq (by omega)]
theorem AR.swapW (A : AR h0 gb gc n l0 q l) {i j : Nat} (hi : i < n) (hj : j < n) {K : Hp → Prop} (hK : ∀ q', AR h0 gb gc n l0 q' (swapL l j i) → K q') :
    ∃ b_3 o_2, (some ⟨gb, 0, none⟩ : Option Addr) = some ⟨b_3, o_2, none⟩ ∧ 0 ≤ (i : Int) ∧ (i : Int) < (n : Int) ∧ ∃ x46_ : Option Addr, cellsAt q b_3 (o_2 + Int.toNat (i : Int) * 1) [(Value.pointer x46_)] ∧
    ∃ b_4 o_3, (some ⟨gb, 0, none⟩ : Option Addr) = some ⟨b_4, o_3, none⟩ ∧ 0 ≤ (j : Int) ∧ (j : Int) < (n : Int) ∧ ∃ x50_ : Option Addr, cellsAt q b_4 (o_3 + Int.toNat (j : Int) * 1) [(Value.pointer x50_)] ∧
    ∃ b_5 o_4, (some ⟨gb, 0, none⟩ : Option Addr) = some ⟨b_5, o_4, none⟩ ∧ 0 ≤ (j : Int) ∧ (j : Int) < (n : Int) ∧
       Value.oneCell' (Value.pointer x46_) = true ∧ wrAt q b_5 (o_4 + Int.toNat (j : Int) * 1) 1 ∧ ∀ hp_4, hp_4 = setsH q b_5 (o_4 + Int.toNat (j : Int) * 1) [(Value.pointer x46_)] →
    ∃ b_6 o_5, (some ⟨gb, 0, none⟩ : Option Addr) = some ⟨b_6, o_5, none⟩ ∧ 0 ≤ (i : Int) ∧ (i : Int) < (n : Int) ∧
       Value.oneCell' (Value.pointer x50_) = true ∧ wrAt hp_4 b_6 (o_5 + Int.toNat (i : Int) * 1) 1 ∧ ∀ hp_5, hp_5 = setsH hp_4 b_6 (o_5 + Int.toNat (i : Int) * 1) [(Value.pointer x50_)] → K hp_5 := by
  have hl := A.len
  refine ⟨gb, 0, rfl, by omega, by omega, _, A.read hi, gb, 0, rfl, by omega, by omega, _, A.read hj, A.own.store hj rfl fun q1 o1 g1 z1 => o1.store hi rfl fun q2 o2 g2 z2 => hK q2 ⟨?_, fun b hb => ?_, by rw [z2, z1, A.size], ?_⟩⟩
  · have e : (swapL l j i).map (fun g => vP g.bg) = ((l.map fun g => vP g.bg).set j (vP (ga l i).bg)).set i (vP (ga l j).bg) := by
      rw [swapL, List.map_set, List.map_set]
    rw [e]; exact o2
  · by_cases hlt : b < q.size
    · rw [g2.block b (by omega) (by intro e; cases e; exact hb rfl), g1.block b hlt (by intro e; cases e; exact hb rfl), A.old b hb]
    · have s := A.size
      rw [Array.getElem?_eq_none (by omega), Array.getElem?_eq_none (by omega)]
  · exact (swapL_perm (by omega) (by omega)).trans A.perm

theorem cmp_c (E : SEnv h0 gb n l0) (A : AR h0 gb gc n l0 q l) {i j : Nat} (hi : i < n) (hj : j < n) : CallsH Tryz.prog 184 #[vP (ga l i).bg, vP (ga l j).bg] q fun e q' => q' = q ∧ e = .returned (vZ ((ga l j).gr - (ga l i).gr)) := by
  have hl := A.len
  have mem : ∀ k, k < n → ga l k ∈ l0 := fun k hk => A.perm.mem_iff.1 (List.mem_of_getElem? (ga_at (by omega)))
  obtain ⟨n1, ⟨a1, b1, c1, e1⟩, lo1, hi1⟩ := E.grp _ (mem i hi)
  obtain ⟨n2, ⟨a2, b2, c2, e2⟩, lo2, hi2⟩ := E.grp _ (mem j hj)
  refine V184 _ _ q _ ⟨_, 0, rfl, _, cellsAt_one (cellH_at ((A.old _ n2).trans e2)), _, 0, rfl, _, cellsAt_one (cellH_at ((A.old _ n1).trans e1)), _, ?_, rfl, rfl⟩
  rw [IntKind.wrap_i64]; omega
end

abbrev rankF : Value := .func (.func 184) #[] #[]

section
variable {h0 q : Hp} {gb gc n : Nat} {l0 l : List Gp}

theorem insert_c (E : SEnv h0 gb n l0) (A : AR h0 gb gc n l0 q l) {a b : Nat} (hb : b ≤ n) (hab : a ≤ b) :
    CallsH Tryz.prog 203 #[sl gb n gc, vI a, vI b, rankF] q fun e q' => e = .returned (.tuple #[]) ∧ ∃ l', AR h0 gb gc n l0 q' l' ∧ Mv a b l l' ∧ Srt l' a b := by
  have hn := E.hn
  have hl := A.len
  refine V203 _ _ _ _ _ _ q _ ⟨((a + 1 : Nat) : Int), incI (by omega), fun vs q' => ∃ i l', vs = [vI i] ∧ a + 1 ≤ i ∧ (i ≤ b ∨ i = a + 1) ∧ AR h0 gb gc n l0 q' l' ∧ Mv a b l l' ∧ Srt l' a i, fun vs _ => b - (numAt vs 0).toNat, ⟨a + 1, l, rfl, Nat.le_refl _, .inr rfl, A, Mv.refl _ _ _, fun x y hx hxy hy => by omega⟩, ?_⟩
  rintro x q1 ⟨i, l1, hv, hi1, hi2, A1, M1, S1⟩
  cases hv
  refine ⟨fun hlt => ?_, fun hge => ⟨rfl, l1, A1, M1, ?_⟩⟩
  · have hib : i < b := by have := of_decide_eq_true hlt; omega
    have nxt : ∀ q2 l2, AR h0 gb gc n l0 q2 l2 → Mv a b l l2 → Srt l2 a (i + 1) → ∃ x16_, IntKind.i64.wrap ((i : Int) + (1 : Int)) = x16_ ∧
        ((∃ i l', [Value.int .i64 x16_] = [vI i] ∧ a + 1 ≤ i ∧ (i ≤ b ∨ i = a + 1) ∧ AR h0 gb gc n l0 q2 l' ∧ Mv a b l l' ∧ Srt l' a i) ∧ b - (numAt [Value.int .i64 x16_] 0).toNat < b - (numAt [Value.int .i64 (i : Int)] 0).toNat) := fun q2 l2 A2 M2 S2 =>
      ⟨((i + 1 : Nat) : Int), incI (by omega), ⟨i + 1, l2, rfl, by omega, .inl (by omega), A2, M2, S2⟩, by simp only [numAt]; omega⟩
    refine ⟨fun vs q' => ∃ j l', vs = [vI j] ∧ a ≤ j ∧ j ≤ i ∧ AR h0 gb gc n l0 q' l' ∧ Mv a b l l' ∧ But l' a i j, fun vs _ => (numAt vs 0).toNat, ⟨i, l1, rfl, by omega, Nat.le_refl _, A1, M1, fun x y hx hxy hy hne => S1 x y hx hxy (by omega)⟩, ?_⟩
    rintro y q2 ⟨j, l2, hv, hj1, hj2, A2, M2, B2⟩
    cases hv
    have hl2 := A2.len
    refine ⟨fun _ q3 => q3 = q2 ∧ a < j ∧ (ga l2 (j - 1)).gr < (ga l2 j).gr, ⟨fun haj => ?_, fun haj => ?_⟩, ?_⟩
    · have haj : a < j := by have := of_decide_eq_true haj; omega
      refine ⟨gb, 0, rfl, by omega, by omega, _, A2.read (by omega), ((j - 1 : Nat) : Int), sub1E (by omega) (by omega), gb, 0, rfl, by omega, by omega, _, A2.read (by omega), 184, #[], #[], rfl, by kernel_rfl, (cmp_c E A2 (i := j) (j := j - 1) (by omega) (by omega)).mono ?_⟩
      rintro en q3 ⟨rfl, rfl⟩
      refine ⟨_, rfl, fun hc => ⟨rfl, haj, ?_⟩, fun hc => nxt _ l2 A2 M2 (but_end B2 (.inr ?_))⟩
      · have := of_decide_eq_true hc; omega
      · have := of_decide_eq_false hc; omega
    · exact nxt _ l2 A2 M2 (but_end B2 (.inl (by have := of_decide_eq_false haj; omega)))
    · rintro q3 ⟨rfl, haj, hlt2⟩
      refine ⟨((j - 1 : Nat) : Int), sub1E (by omega) (by omega), ((j - 1 : Nat) : Int), sub1E (by omega) (by omega), ?_⟩
      refine A2.swapW (by omega) (by omega) fun q4 A4 => ?_
      exact ⟨((j - 1 : Nat) : Int), sub1E (by omega) (by omega), ⟨j - 1, _, rfl, by omega, by omega, A4, M2.trans (Mv.swap (by omega) (by omega) (by omega) (by omega) (by omega)), but_step B2 haj hj2 (by omega) hlt2⟩, by simp only [numAt]; omega⟩
  · have := of_decide_eq_false hge
    intro x y hx hxy hy
    exact S1 x y hx hxy (by omega)

theorem swaps_c (hn : n ≤ 1000000) (A : AR h0 gb gc n l0 q l) {a b k : Nat} (h1 : a + k ≤ b) (h2 : b + k ≤ n) :
    CallsH Tryz.prog 212 #[sl gb n gc, vI a, vI b, vI k, rankF] q fun e q' => e = .returned (.tuple #[]) ∧ ∃ l', AR h0 gb gc n l0 q' l' ∧ ∀ x, ga l' x = ga l (swpS a b k x) := by
  have hl := A.len
  refine V212 _ _ _ _ _ _ _ q _ ⟨fun vs q' => ∃ i l', vs = [vI i] ∧ i ≤ k ∧ AR h0 gb gc n l0 q' l' ∧ ∀ x, ga l' x = ga l (swpS a b i x), fun vs _ => k - (numAt vs 0).toNat, ⟨0, l, rfl, Nat.zero_le _, A, fun x => by rw [swpS, if_neg (by omega), if_neg (by omega)]⟩, ?_⟩
  rintro x q1 ⟨i, l1, hv, hi, A1, e1⟩
  cases hv
  have hl1 := A1.len
  refine ⟨fun hlt => ?_, fun hge => ⟨rfl, l1, A1, ?_⟩⟩
  · have hik : i < k := by have := of_decide_eq_true hlt; omega
    refine ⟨((a + i : Nat) : Int), addE (by omega), ((b + i : Nat) : Int), addE (by omega), ((b + i : Nat) : Int), addE (by omega), ?_⟩
    have hsw := A1.swapW (i := b + i) (j := a + i) (by omega) (by omega) (K := fun q' => ∃ x15_, IntKind.i64.wrap ((i : Int) + (1 : Int)) = x15_ ∧
      ((∃ i l', [Value.int .i64 x15_] = [vI i] ∧ i ≤ k ∧ AR h0 gb gc n l0 q' l' ∧ ∀ x, ga l' x = ga l (swpS a b i x)) ∧ k - (numAt [Value.int .i64 x15_] 0).toNat < k - (numAt [Value.int .i64 (i : Int)] 0).toNat)) fun q2 A2 => by
        refine ⟨((i + 1 : Nat) : Int), incI (by omega), ⟨i + 1, _, rfl, by omega, A2, fun x => ?_⟩, by simp only [numAt]; omega⟩
        rw [ga_swap (by omega) (by omega)]
        by_cases hx1 : x = b + i
        · rw [if_pos hx1, e1]; congr 1
          unfold swpS; repeat' split
          all_goals omega
        · rw [if_neg hx1]
          by_cases hx2 : x = a + i
          · rw [if_pos hx2, e1]; congr 1
            unfold swpS; repeat' split
            all_goals omega
          · rw [if_neg hx2, e1]; congr 1
            unfold swpS; repeat' split
            all_goals omega
    obtain ⟨b3, o2, p1, p2, p3, x46, p4, p5⟩ := hsw
    exact ⟨b3, o2, p1, p2, p3, x46, p4, ((a + i : Nat) : Int), addE (by omega), p5⟩
  · have : i = k := by have := of_decide_eq_false hge; omega
    rw [← this]; exact e1

theorem rotate_c (hn : n ≤ 1000000) (A : AR h0 gb gc n l0 q l) {a m b : Nat} (h1 : a < m) (h2 : m < b) (h3 : b ≤ n) :
    CallsH Tryz.prog 210 #[sl gb n gc, vI a, vI m, vI b, rankF] q fun e q' => e = .returned (.tuple #[]) ∧ ∃ l', AR h0 gb gc n l0 q' l' ∧ ∀ x, ga l' x = ga l (rotS a m b x) := by
  have hl := A.len
  refine V210 _ _ _ _ _ _ _ q _ ⟨((m - a : Nat) : Int), subE (by omega) (by omega), ((b - m : Nat) : Int), subE (by omega) (by omega), fun vs q' => ∃ i j l', vs = [vI i, vI j] ∧ 0 < i ∧ 0 < j ∧ i ≤ m ∧ m + j ≤ n ∧ AR h0 gb gc n l0 q' l' ∧ ∀ x, ga l' (rotS (m - i) m (m + j) x) = ga l (rotS a m b x), fun vs _ => (numAt vs 0).toNat + (numAt vs 1).toNat, ⟨m - a, b - m, l, rfl, by omega, by omega, by omega, by omega, A, fun x => by rw [show m - (m - a) = a by omega, show m + (b - m) = b by omega]⟩, ?_⟩
  rintro x y q1 ⟨i, j, l1, hv, hi, hj, him, hjn, A1, e1⟩
  cases hv
  refine ⟨fun hne => ⟨fun hlt => ?_, fun hge => ?_⟩, fun heq => ?_⟩
  · have hji : j < i := by have := of_decide_eq_true hlt; omega
    refine ⟨((m - i : Nat) : Int), subE him (by omega), (swaps_c hn A1 (a := m - i) (b := m) (k := j) (by omega) (by omega)).mono ?_⟩
    rintro en q2 ⟨rfl, l2, A2, e2⟩
    refine ⟨rfl, ((i - j : Nat) : Int), subE (by omega) (by omega), ⟨i - j, j, l2, rfl, by omega, hj, by omega, hjn, A2, fun x => ?_⟩, by simp only [numAt]; omega⟩
    rw [e2, rot_left hji him hj, e1]
  · have hne := of_decide_eq_true hne
    have hij : i < j := by have := of_decide_eq_false hge; omega
    refine ⟨((m - i : Nat) : Int), subE him (by omega), ((m + j : Nat) : Int), addE (by omega), ((m + j - i : Nat) : Int), subE (by omega) (by omega), (swaps_c hn A1 (a := m - i) (b := m + j - i) (k := i) (by omega) (by omega)).mono ?_⟩
    rintro en q2 ⟨rfl, l2, A2, e2⟩
    refine ⟨rfl, ((j - i : Nat) : Int), subE (by omega) (by omega), ⟨i, j - i, l2, rfl, hi, by omega, him, by omega, A2, fun x => ?_⟩, by simp only [numAt]; omega⟩
    rw [e2, rot_right hij him hi, e1]
  · have hij : i = j := by have := of_decide_eq_false heq; omega
    subst hij
    refine ⟨((m - i : Nat) : Int), subE him (by omega), (swaps_c hn A1 (a := m - i) (b := m) (k := i) (by omega) (by omega)).mono ?_⟩
    rintro en q2 ⟨rfl, l2, A2, e2⟩
    refine ⟨rfl, rfl, l2, A2, fun x => ?_⟩
    rw [e2, rot_last him, e1]
end
end Go.Vc
