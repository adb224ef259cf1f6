/- TopLongest: the merge in place and the stable sort, walked. -/
import Derived.Test.YtamhpfdcnfgngaaGreatTmS
set_option maxRecDepth 10000
namespace Go.Vc
open Go Go.Proofs Go.MapKept

theorem srt_le {l : List Gp} {a b x y : Nat} (s : Srt l a b) (hx : a ≤ x) (hxy : x ≤ y) (hy : y < b) : (ga l y).gr ≤ (ga l x).gr := by
  rcases Nat.lt_or_eq_of_le hxy with h | rfl
  · exact s x y hx h hy
  · exact Int.le_refl _
theorem Srt.same {l l' : List Gp} {a b : Nat} (s : Srt l a b) (h : ∀ x, a ≤ x → x < b → ga l' x = ga l x) : Srt l' a b := fun x y hx hxy hy => by
  rw [h x hx (by omega), h y (by omega) hy]; exact s x y hx hxy hy
theorem mv_rot {l l' : List Gp} {a b s m e : Nat} (hp : l'.Perm l) (h1 : a ≤ s) (h2 : s ≤ m) (h3 : m ≤ e) (h4 : e ≤ b) (hl : ∀ x, ga l' x = ga l (rotS s m e x)) : Mv a b l l' := by
  refine ⟨hp, fun x hx => ?_, fun x hx1 hx2 => ⟨rotS s m e x, ?_, ?_, hl x⟩⟩
  · rw [hl, rotS, if_pos (by omega)]
  · unfold rotS; repeat' split
    all_goals omega
  · unfold rotS; repeat' split
    all_goals omega

section
variable {h0 : Hp} {gb gc n : Nat} {l0 : List Gp}

theorem merge_c (E : SEnv h0 gb n l0) : ∀ (d a m b : Nat) (q : Hp) (l : List Gp), b - a ≤ d → AR h0 gb gc n l0 q l → a < m → m < b → b ≤ n → Srt l a m → Srt l m b →
    CallsH Tryz.prog 204 #[sl gb n gc, vI a, vI m, vI b, rankF] q fun e q' => e = .returned (.tuple #[]) ∧ ∃ l', AR h0 gb gc n l0 q' l' ∧ Mv a b l l' ∧ Srt l' a b := by
  have hn := E.hn
  intro d
  induction d with
  | zero => intro a m b q l hd _ h1 h2; omega
  | succ d IH =>
    intro a m b q l hd A ham hmb hbn S1 S2
    have hl := A.len
    refine V204 _ _ _ _ _ _ _ q _ ⟨((m - a : Nat) : Int), subE (by omega) (by omega), fun h1 => ?_, fun h1 => ⟨((b - m : Nat) : Int), subE (by omega) (by omega), fun h2 => ?_, fun h2 => ?_⟩⟩
    · -- one on the left
      have hm : m = a + 1 := by have := of_decide_eq_true h1; omega
      refine ⟨fun vs q' => ∃ i j, vs = [vI i, vI j] ∧ m ≤ i ∧ i ≤ j ∧ j ≤ b ∧ q' = q ∧ (∀ x, m ≤ x → x < i → (ga l a).gr < (ga l x).gr) ∧ (∀ x, j ≤ x → x < b → (ga l x).gr ≤ (ga l a).gr), fun vs _ => (numAt vs 1).toNat - (numAt vs 0).toNat, ⟨m, b, rfl, Nat.le_refl _, by omega, Nat.le_refl _, rfl, fun x h3 h4 => by omega, fun x h3 h4 => by omega⟩, ?_⟩
      rintro y z q1 ⟨i, j, hv, hi, hij, hj, rfl, hlo, hhi⟩
      cases hv
      refine ⟨fun hlt => ?_, fun hge => ?_⟩
      · have hlt := of_decide_eq_true hlt
        refine halfE (by omega) ⟨gb, 0, rfl, by omega, by omega, _, A.read (i := (i + j) / 2) (by omega), gb, 0, rfl, by omega, by omega, _, A.read (i := a) (by omega), 184, #[], #[], rfl, by kernel_rfl, (cmp_c E A (i := (i + j) / 2) (j := a) (by omega) (by omega)).mono ?_⟩
        rintro en q2 ⟨rfl, rfl⟩
        refine ⟨_, rfl, fun hc => ⟨(((i + j) / 2 + 1 : Nat) : Int), incI (by omega), ⟨(i + j) / 2 + 1, j, rfl, by omega, by omega, hj, rfl, fun x h3 h4 => ?_, hhi⟩, by simp only [numAt]; omega⟩, fun hc => ⟨⟨i, (i + j) / 2, rfl, hi, by omega, by omega, rfl, hlo, fun x h3 h4 => ?_⟩, by simp only [numAt]; omega⟩⟩
        · have := of_decide_eq_true hc
          have := srt_le S2 h3 (show x ≤ (i + j) / 2 by omega) (by omega)
          omega
        · have := of_decide_eq_false hc
          have := srt_le S2 (show m ≤ (i + j) / 2 by omega) h3 h4
          omega
      · have hji : i = j := by have := of_decide_eq_false hge; omega
        subst hji
        refine ⟨fun vs q' => ∃ k l', vs = [vI k] ∧ a ≤ k ∧ k ≤ i - 1 ∧ AR h0 gb gc n l0 q' l' ∧ Mv a b l l' ∧ ∀ x, ga l' x = if a ≤ x ∧ x < k then ga l (x + 1) else if x = k then ga l a else ga l x, fun vs _ => i - (numAt vs 0).toNat, ⟨a, l, rfl, Nat.le_refl _, by omega, A, Mv.refl _ _ _, fun x => ?_⟩, ?_⟩
        · rw [if_neg (by omega)]
          by_cases hxa : x = a
          · rw [if_pos hxa, hxa]
          · rw [if_neg hxa]
        rintro y q2 ⟨k, l2, hv, hk1, hk2, A2, M2, e2⟩
        cases hv
        have hl2 := A2.len
        refine ⟨((i - 1 : Nat) : Int), sub1E (by omega) (by omega), fun hlt => ?_, fun hge => ⟨rfl, l2, A2, M2, ?_⟩⟩
        · have hlt := of_decide_eq_true hlt
          refine ⟨((k + 1 : Nat) : Int), incI (by omega), ((k + 1 : Nat) : Int), incI (by omega), A2.swapW (i := k + 1) (j := k) (by omega) (by omega) fun q3 A3 => ⟨((k + 1 : Nat) : Int), incI (by omega), ⟨k + 1, _, rfl, by omega, by omega, A3, M2.trans (Mv.swap (by omega) (by omega) (by omega) (by omega) (by omega)), fun x => ?_⟩, by simp only [numAt]; omega⟩⟩
          rw [ga_swap (by omega) (by omega)]
          by_cases hx1 : x = k + 1
          · rw [if_pos hx1, e2, if_neg (by omega), if_pos rfl, if_neg (by omega), if_pos hx1]
          · rw [if_neg hx1]
            by_cases hx2 : x = k
            · rw [if_pos hx2, e2, if_neg (by omega), if_neg (by omega), if_pos (by omega), hx2]
            · rw [if_neg hx2, e2]
              by_cases hx3 : a ≤ x ∧ x < k
              · rw [if_pos hx3, if_pos (by omega)]
              · rw [if_neg hx3, if_neg hx2, if_neg (by omega), if_neg hx1]
        · have hke : k = i - 1 := by have := of_decide_eq_false hge; omega
          subst hke
          exact one_left (by rw [← hm]; exact S2) (by omega) (by omega) (fun x h3 h4 => hlo x (by omega) h4) hhi e2
    · -- one on the right
      have hb : b = m + 1 := by have := of_decide_eq_true h2; omega
      refine ⟨fun vs q' => ∃ i j, vs = [vI i, vI j] ∧ a ≤ i ∧ i ≤ j ∧ j ≤ m ∧ q' = q ∧ (∀ x, a ≤ x → x < i → (ga l m).gr ≤ (ga l x).gr) ∧ (∀ x, j ≤ x → x < m → (ga l x).gr < (ga l m).gr), fun vs _ => (numAt vs 1).toNat - (numAt vs 0).toNat, ⟨a, m, rfl, Nat.le_refl _, by omega, Nat.le_refl _, rfl, fun x h3 h4 => by omega, fun x h3 h4 => by omega⟩, ?_⟩
      rintro y z q1 ⟨i, j, hv, hi, hij, hj, rfl, hlo, hhi⟩
      cases hv
      refine ⟨fun hlt => ?_, fun hge => ?_⟩
      · have hlt := of_decide_eq_true hlt
        refine halfE (by omega) ⟨gb, 0, rfl, by omega, by omega, _, A.read (i := m) (by omega), gb, 0, rfl, by omega, by omega, _, A.read (i := (i + j) / 2) (by omega), 184, #[], #[], rfl, by kernel_rfl, (cmp_c E A (i := m) (j := (i + j) / 2) (by omega) (by omega)).mono ?_⟩
        rintro en q2 ⟨rfl, rfl⟩
        refine ⟨_, rfl, fun hc => ⟨(((i + j) / 2 + 1 : Nat) : Int), incI (by omega), ⟨(i + j) / 2 + 1, j, rfl, by omega, by omega, hj, rfl, fun x h3 h4 => ?_, hhi⟩, by simp only [numAt]; omega⟩, fun hc => ⟨⟨i, (i + j) / 2, rfl, hi, by omega, by omega, rfl, hlo, fun x h3 h4 => ?_⟩, by simp only [numAt]; omega⟩⟩
        · rw [Bool.not_eq_true'] at hc
          have := of_decide_eq_false hc
          have := srt_le S1 h3 (show x ≤ (i + j) / 2 by omega) (by omega)
          omega
        · rw [Bool.not_eq_false'] at hc
          have := of_decide_eq_true hc
          have := srt_le S1 (show a ≤ (i + j) / 2 by omega) h3 h4
          omega
      · have hji : i = j := by have := of_decide_eq_false hge; omega
        subst hji
        refine ⟨fun vs q' => ∃ k l', vs = [vI k] ∧ i ≤ k ∧ k ≤ m ∧ AR h0 gb gc n l0 q' l' ∧ Mv a b l l' ∧ ∀ x, ga l' x = if k < x ∧ x ≤ m then ga l (x - 1) else if x = k then ga l m else ga l x, fun vs _ => (numAt vs 0).toNat, ⟨m, l, rfl, by omega, Nat.le_refl _, A, Mv.refl _ _ _, fun x => ?_⟩, ?_⟩
        · rw [if_neg (by omega)]
          by_cases hxa : x = m
          · rw [if_pos hxa, hxa]
          · rw [if_neg hxa]
        rintro y q2 ⟨k, l2, hv, hk1, hk2, A2, M2, e2⟩
        cases hv
        have hl2 := A2.len
        refine ⟨fun hlt => ?_, fun hge => ⟨rfl, l2, A2, M2, ?_⟩⟩
        · have hlt := of_decide_eq_true hlt
          refine ⟨((k - 1 : Nat) : Int), sub1E (by omega) (by omega), ((k - 1 : Nat) : Int), sub1E (by omega) (by omega), A2.swapW (i := k - 1) (j := k) (by omega) (by omega) fun q3 A3 => ⟨((k - 1 : Nat) : Int), sub1E (by omega) (by omega), ⟨k - 1, _, rfl, by omega, by omega, A3, M2.trans (Mv.swap (by omega) (by omega) (by omega) (by omega) (by omega)), fun x => ?_⟩, by simp only [numAt]; omega⟩⟩
          rw [ga_swap (by omega) (by omega)]
          by_cases hx1 : x = k - 1
          · rw [if_pos hx1, e2, if_neg (by omega), if_pos rfl, if_neg (by omega), if_pos hx1]
          · rw [if_neg hx1]
            by_cases hx2 : x = k
            · rw [if_pos hx2, e2, if_neg (by omega), if_neg (by omega), if_pos (by omega), hx2]
            · rw [if_neg hx2, e2]
              by_cases hx3 : k < x ∧ x ≤ m
              · rw [if_pos hx3, if_pos (by omega)]
              · rw [if_neg hx3, if_neg hx2, if_neg (by omega), if_neg hx1]
        · have hke : k = i := by have := of_decide_eq_false hge; omega
          subst hke
          rw [hb]
          exact one_right S1 hi hj hlo hhi e2
    · -- the halves
      have hm2 : a + 2 ≤ m := by have := of_decide_eq_false h1; omega
      have hb2 : m + 2 ≤ b := by have := of_decide_eq_false h2; omega
      clear h1 h2
      refine halfE (by omega) ?_
      generalize hmid : (a + b) / 2 = mid
      have hmid1 : a < mid := by omega
      have hmid2 : mid < b := by omega
      refine ⟨((mid + m : Nat) : Int), addE (by omega), fun vs q' => ∃ s0 r0, vs = [vI s0, vI r0] ∧ q' = q ∧ ((mid < m ∧ s0 = mid + m - b ∧ r0 = mid) ∨ (m ≤ mid ∧ s0 = a ∧ r0 = m)), ⟨fun hc => ?_, fun hc => ?_⟩, ?_⟩
      · have := of_decide_eq_true hc
        exact ⟨((mid + m - b : Nat) : Int), subE (by omega) (by omega), _, mid, rfl, rfl, .inl ⟨by omega, rfl, rfl⟩⟩
      · have := of_decide_eq_false hc
        exact ⟨a, m, rfl, rfl, .inr ⟨by omega, rfl, rfl⟩⟩
      rintro s0' r0' q1 ⟨s0, r0, hv, rfl, h0'⟩
      cases hv
      refine ⟨((mid + m - 1 : Nat) : Int), sub1E (by omega) (by omega), fun vs q' => ∃ s r, vs = [vI s, vI r] ∧ s0 ≤ s ∧ s ≤ r ∧ r ≤ r0 ∧ q' = q1 ∧ (∀ c, s0 ≤ c → c < s → (ga l (mid + m - 1 - c)).gr ≤ (ga l c).gr) ∧ (∀ c, r ≤ c → c < r0 → (ga l c).gr < (ga l (mid + m - 1 - c)).gr), fun vs _ => (numAt vs 1).toNat - (numAt vs 0).toNat, ⟨s0, r0, rfl, Nat.le_refl _, by omega, Nat.le_refl _, rfl, fun c h3 h4 => by omega, fun c h3 h4 => by omega⟩, ?_⟩
      rintro y z q2 ⟨s, r, hv, hs, hsr, hr, rfl, hT, hF⟩
      cases hv
      refine ⟨fun hlt => ?_, fun hge => ?_⟩
      · have hlt := of_decide_eq_true hlt
        refine halfE (by omega) ?_
        generalize hc : (s + r) / 2 = c
        have hc1 : s ≤ c := by omega
        have hc2 : c < r := by omega
        refine ⟨((mid + m - 1 - c : Nat) : Int), subE (by omega) (by omega), gb, 0, rfl, by omega, by omega, _, A.read (i := mid + m - 1 - c) (by omega), gb, 0, rfl, by omega, by omega, _, A.read (i := c) (by omega), 184, #[], #[], rfl, by kernel_rfl, (cmp_c E A (i := mid + m - 1 - c) (j := c) (by omega) (by omega)).mono ?_⟩
        rintro en q3 ⟨rfl, rfl⟩
        refine ⟨_, rfl, fun hc => ⟨((c + 1 : Nat) : Int), incI (by omega), ⟨c + 1, r, rfl, by omega, by omega, hr, rfl, fun x h3 h4 => ?_, hF⟩, by simp only [numAt]; omega⟩, fun hc => ⟨⟨s, c, rfl, hs, hc1, by omega, rfl, hT, fun x h3 h4 => ?_⟩, by simp only [numAt]; omega⟩⟩
        · rw [Bool.not_eq_true'] at hc
          have := of_decide_eq_false hc
          have g1 := srt_le S1 (show a ≤ x by omega) (show x ≤ c by omega) (by omega)
          have g2 := srt_le S2 (show m ≤ mid + m - 1 - c by omega) (show mid + m - 1 - c ≤ mid + m - 1 - x by omega) (by omega)
          omega
        · rw [Bool.not_eq_false'] at hc
          have := of_decide_eq_true hc
          have g1 := srt_le S1 (show a ≤ c by omega) (show c ≤ x by omega) (by omega)
          have g2 := srt_le S2 (show m ≤ mid + m - 1 - x by omega) (show mid + m - 1 - x ≤ mid + m - 1 - c by omega) (by omega)
          omega
      · have hsr' : s = r := by have := of_decide_eq_false hge; omega
        subst hsr'
        have C := cut_of S1 S2 ham hmb hmid.symm h0' hs hr hT hF
        have c1 := C.lo; have c2 := C.hi; have c3 := C.e1; have c4 := C.e2
        refine ⟨((mid + m - s : Nat) : Int), subE (by omega) (by omega), fun _ q3 => ∃ l1, AR h0 gb gc n l0 q3 l1 ∧ l1.Perm l ∧ ∀ x, ga l1 x = ga l (rotS s m (mid + m - s) x), ⟨decide ((s : Int) < (m : Int)) && decide ((m : Int) < ((mid + m - s : Nat) : Int)), ⟨fun hc => ⟨rfl, by rw [hc]; rfl⟩, fun hc => ⟨rfl, by rw [hc]; rfl⟩⟩, fun hB => ?_, fun hB => ?_⟩, ?_⟩
        · rw [Bool.and_eq_true] at hB
          have b1 := of_decide_eq_true hB.1
          have b2 := of_decide_eq_true hB.2
          refine (rotate_c hn A (a := s) (m := m) (b := mid + m - s) (by omega) (by omega) (by omega)).mono ?_
          rintro en q3 ⟨rfl, l1, A1, e1⟩
          exact ⟨rfl, l1, A1, A1.perm.trans A.perm.symm, e1⟩
        · rw [Bool.and_eq_false_iff] at hB
          refine ⟨l, A, .refl _, fun x => ?_⟩
          congr 1
          rcases hB with hB | hB
          · have := of_decide_eq_false hB
            unfold rotS; repeat' split
            all_goals omega
          · have := of_decide_eq_false hB
            unfold rotS; repeat' split
            all_goals omega
        rintro q3 ⟨l1, A1, P1, e1⟩
        obtain ⟨t1, t2, t3, t4, t5⟩ := cut_rot S1 S2 C e1
        have M1 : Mv a b l l1 := mv_rot P1 c1 c2 c3 c4 e1
        refine ⟨fun _ q4 => ∃ l2, AR h0 gb gc n l0 q4 l2 ∧ Mv a mid l1 l2 ∧ Srt l2 a mid, ⟨decide ((a : Int) < (s : Int)) && decide ((s : Int) < (mid : Int)), ⟨fun hc => ⟨rfl, by rw [hc]; rfl⟩, fun hc => ⟨rfl, by rw [hc]; rfl⟩⟩, fun hB => ?_, fun hB => ?_⟩, ?_⟩
        · rw [Bool.and_eq_true] at hB
          have b1 := of_decide_eq_true hB.1
          have b2 := of_decide_eq_true hB.2
          refine (IH a s mid q3 l1 (by omega) A1 (by omega) (by omega) (by omega) t1 t2).mono ?_
          rintro en q4 ⟨rfl, l2, A2, M2, S2'⟩
          exact ⟨rfl, l2, A2, M2, S2'⟩
        · rw [Bool.and_eq_false_iff] at hB
          refine ⟨l1, A1, Mv.refl _ _ _, ?_⟩
          rcases hB with hB | hB
          · have := of_decide_eq_false hB
            have : s = a := by omega
            rw [← this]; exact t2
          · have := of_decide_eq_false hB
            intro x y hx hxy hy
            exact t1 x y hx hxy (by omega)
        rintro q4 ⟨l2, A2, M2, s2⟩
        have t3' : Srt l2 mid (mid + m - s) := t3.same fun x hx _ => M2.out x (.inr hx)
        have t4' : Srt l2 (mid + m - s) b := t4.same fun x hx _ => M2.out x (.inr (by omega))
        refine ⟨decide ((mid : Int) < ((mid + m - s : Nat) : Int)) && decide (((mid + m - s : Nat) : Int) < (b : Int)), ⟨fun hc => ⟨rfl, by rw [hc]; rfl⟩, fun hc => ⟨rfl, by rw [hc]; rfl⟩⟩, fun hB => ?_, fun hB => ?_⟩
        · rw [Bool.and_eq_true] at hB
          have b1 := of_decide_eq_true hB.1
          have b2 := of_decide_eq_true hB.2
          refine (IH mid (mid + m - s) b q4 l2 (by omega) A2 (by omega) (by omega) (by omega) t3' t4').mono ?_
          rintro en q5 ⟨rfl, l3, A3, M3, S3⟩
          exact ⟨rfl, rfl, l3, A3, (M1.trans (M2.wide (Nat.le_refl _) (by omega))).trans (M3.wide (by omega) (Nat.le_refl _)), halves t5 M2 s2 M3 S3⟩
        · rw [Bool.and_eq_false_iff] at hB
          refine ⟨rfl, l2, A2, M1.trans (M2.wide (Nat.le_refl _) (by omega)), halves t5 M2 s2 (Mv.refl mid b l2) ?_⟩
          rcases hB with hB | hB
          · have := of_decide_eq_false hB
            intro x y hx hxy hy
            exact t4' x y (by omega) hxy hy
          · have := of_decide_eq_false hB
            have : mid + m - s = b := by omega
            rw [← this]; exact t3'
end
end Go.Vc
