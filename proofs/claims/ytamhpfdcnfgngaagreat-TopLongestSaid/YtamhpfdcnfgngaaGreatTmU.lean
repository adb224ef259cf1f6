/- TopLongest: the stable sort of a list's groups; rank. -/
import Derived.Test.YtamhpfdcnfgngaaGreatTmT
set_option maxRecDepth 10000
namespace Go.Vc
open Go Go.Proofs Go.MapKept

section
variable {h0 : Hp} {gb gc n : Nat} {l0 : List Gp}

theorem mulE {i : Nat} (hb : i < 1000000000) : IntKind.i64.wrap ((2 : Int) * (i : Int)) = ((2 * i : Nat) : Int) := by rw [IntKind.wrap_i64]; omega
theorem mulE' {i : Nat} (hb : i < 1000000000) : IntKind.i64.wrap ((i : Int) * (2 : Int)) = ((2 * i : Nat) : Int) := by rw [IntKind.wrap_i64]; omega

theorem stable_c (E : SEnv h0 gb n l0) {q : Hp} {l : List Gp} (A : AR h0 gb gc n l0 q l) : CallsH Tryz.prog 190 #[sl gb n gc, vI n, rankF] q fun e q' => e = .returned (.tuple #[]) ∧ ∃ l', AR h0 gb gc n l0 q' l' ∧ Srt l' 0 n := by
  have hn := E.hn
  refine V190 _ _ _ _ _ q _ ⟨fun vs q' => ∃ a b l', vs = [vI a, vI b] ∧ b = a + 20 ∧ 20 ∣ a ∧ a ≤ n ∧ AR h0 gb gc n l0 q' l' ∧ ∀ s, 20 ∣ s → s < a → Srt l' s (s + 20), fun vs _ => n + 100 - (numAt vs 1).toNat, ⟨0, 20, l, rfl, rfl, ⟨0, rfl⟩, Nat.zero_le _, A, fun s _ hs => by omega⟩, ?_⟩
  rintro y z q1 ⟨a, b, l1, hv, rfl, hd, han, A1, B1⟩
  cases hv
  have step : ∀ (e : Nat) (l2 : List Gp), Mv a e l1 l2 → Srt l2 a e → ∀ s, 20 ∣ s → s < a → Srt l2 s (s + 20) := fun e l2 M2 S2 s h1 h2 => (B1 s h1 h2).same fun x _ hx => M2.out x (.inl (by have := dvd_next h1 hd h2; omega))
  refine ⟨fun hle => ?_, fun hgt => ?_⟩
  · have hle : a + 20 ≤ n := by have := of_decide_eq_true hle; omega
    refine (insert_c E A1 (a := a) (b := a + 20) hle (by omega)).mono ?_
    rintro en q2 ⟨rfl, l2, A2, M2, S2⟩
    refine ⟨rfl, ((a + 20 + 20 : Nat) : Int), by rw [IntKind.wrap_i64]; omega, ⟨a + 20, a + 20 + 20, l2, rfl, rfl, Nat.dvd_add hd ⟨1, rfl⟩, hle, A2, fun s h1 h2 => ?_⟩, by simp only [numAt]; omega⟩
    rcases Nat.lt_or_ge s a with h3 | h3
    · exact step _ l2 M2 S2 s h1 h3
    · have : s = a := by
        rcases Nat.lt_or_eq_of_le h3 with h4 | h4
        · have := dvd_next hd h1 h4; omega
        · exact h4.symm
      subst this; exact S2
  · have hgt : n < a + 20 := by have := of_decide_eq_false hgt; omega
    refine (insert_c E A1 (a := a) (b := n) (Nat.le_refl _) han).mono ?_
    rintro en q2 ⟨rfl, l2, A2, M2, S2⟩
    refine ⟨rfl, fun vs q' => ∃ bs l', vs = [vI bs] ∧ 20 ≤ bs ∧ bs ≤ 2 * n + 40 ∧ AR h0 gb gc n l0 q' l' ∧ ∀ s, bs ∣ s → Srt l' s (min (s + bs) n), fun vs _ => 2 * n + 100 - (numAt vs 0).toNat, ⟨20, l2, rfl, Nat.le_refl _, by omega, A2, fun s h1 => ?_⟩, ?_⟩
    · rcases Nat.lt_or_ge s a with h3 | h3
      · intro x y hx hxy hy
        exact step _ l2 M2 S2 s h1 h3 x y hx hxy (by omega)
      · intro x y hx hxy hy
        exact S2 x y (by omega) hxy (by omega)
    rintro y q3 ⟨bs, l3, hv, hbs, hbs2, A3, B3⟩
    cases hv
    refine ⟨fun hlt => ?_, fun hge => ⟨rfl, l3, A3, fun x y hx hxy hy => B3 0 ⟨0, rfl⟩ x y hx hxy (by have := of_decide_eq_false hge; omega)⟩⟩
    have hlt : bs < n := by have := of_decide_eq_true hlt; omega
    refine ⟨((2 * bs : Nat) : Int), mulE (by omega), fun vs q' => ∃ a b l', vs = [vI a, vI b] ∧ b = a + 2 * bs ∧ 2 * bs ∣ a ∧ a ≤ n ∧ AR h0 gb gc n l0 q' l' ∧ (∀ s, 2 * bs ∣ s → s < a → Srt l' s (s + 2 * bs)) ∧ (∀ s, bs ∣ s → a ≤ s → Srt l' s (min (s + bs) n)), fun vs _ => n + 2 * bs + 100 - (numAt vs 1).toNat, ⟨0, 2 * bs, l3, rfl, by omega, ⟨0, rfl⟩, Nat.zero_le _, A3, fun s _ hs => by omega, fun s h1 _ => B3 s h1⟩, ?_⟩
    rintro y z q4 ⟨a, b, l4, hv, rfl, hd, han, A4, B4, C4⟩
    cases hv
    have hda : bs ∣ a := Nat.dvd_trans ⟨2, by omega⟩ hd
    have eqa : ∀ s, 2 * bs ∣ s → s < a + 2 * bs → ¬ s < a → s = a := fun s h1 h2 h3 => by
      rcases Nat.lt_or_eq_of_le (Nat.le_of_not_lt h3) with h4 | h4
      · have := dvd_next hd h1 h4; omega
      · exact h4.symm
    refine ⟨fun hle => ?_, fun hgt => ?_⟩
    · have hle : a + 2 * bs ≤ n := by have := of_decide_eq_true hle; omega
      refine ⟨((a + bs : Nat) : Int), addE (by omega), (merge_c E (2 * bs) a (a + bs) (a + 2 * bs) q4 l4 (by omega) A4 (by omega) (by omega) hle (fun x y hx hxy hy => C4 a hda (Nat.le_refl _) x y hx hxy (by omega)) (fun x y hx hxy hy => C4 (a + bs) (Nat.dvd_add hda (Nat.dvd_refl _)) (by omega) x y hx hxy (by omega))).mono ?_⟩
      rintro en q5 ⟨rfl, l5, A5, M5, S5⟩
      refine ⟨rfl, ((2 * bs : Nat) : Int), mulE (by omega), ((a + 2 * bs + 2 * bs : Nat) : Int), addE (by omega), ⟨a + 2 * bs, a + 2 * bs + 2 * bs, l5, rfl, rfl, Nat.dvd_add hd (Nat.dvd_refl _), hle, A5, fun s h1 h2 => ?_, fun s h1 h2 => ?_⟩, by simp only [numAt]; omega⟩
      · by_cases h3 : s < a
        · exact (B4 s h1 h3).same fun x _ hx => M5.out x (.inl (by have := dvd_next h1 hd h3; omega))
        · obtain rfl := eqa s h1 h2 h3
          exact S5
      · exact (C4 s h1 (by omega)).same fun x hx _ => M5.out x (.inr (by omega))
    · have hgt : n < a + 2 * bs := by have := of_decide_eq_false hgt; omega
      have nxt : ∀ q5 l5, AR h0 gb gc n l0 q5 l5 → (∀ s, 2 * bs ∣ s → s < a → Srt l5 s (s + 2 * bs)) → Srt l5 a n → ∃ x62_, IntKind.i64.wrap ((bs : Int) * (2 : Int)) = x62_ ∧
          ((∃ bs l', [Value.int .i64 x62_] = [vI bs] ∧ 20 ≤ bs ∧ bs ≤ 2 * n + 40 ∧ AR h0 gb gc n l0 q5 l' ∧ ∀ s, bs ∣ s → Srt l' s (min (s + bs) n)) ∧ 2 * n + 100 - (numAt [Value.int .i64 x62_] 0).toNat < 2 * n + 100 - (numAt [Value.int .i64 (bs : Int)] 0).toNat) := fun q5 l5 A5 B5 S5 => by
        refine ⟨((2 * bs : Nat) : Int), mulE' (by omega), ⟨2 * bs, l5, rfl, by omega, by omega, A5, fun s h1 => ?_⟩, by simp only [numAt]; omega⟩
        intro x y hx hxy hy
        by_cases h3 : s < a
        · exact B5 s h1 h3 x y hx hxy (by omega)
        · exact S5 x y (by omega) hxy (by omega)
      refine ⟨((a + bs : Nat) : Int), addE (by omega), fun hm => ?_, fun hm => ?_⟩
      · have hm : a + bs < n := by have := of_decide_eq_true hm; omega
        refine (merge_c E (2 * bs) a (a + bs) n q4 l4 (by omega) A4 (by omega) hm (Nat.le_refl _) (fun x y hx hxy hy => C4 a hda (Nat.le_refl _) x y hx hxy (by omega)) (fun x y hx hxy hy => C4 (a + bs) (Nat.dvd_add hda (Nat.dvd_refl _)) (by omega) x y hx hxy (by omega))).mono ?_
        rintro en q5 ⟨rfl, l5, A5, M5, S5⟩
        refine ⟨rfl, nxt q5 l5 A5 (fun s h1 h3 => (B4 s h1 h3).same fun x _ hx => M5.out x (.inl (by have := dvd_next h1 hd h3; omega))) S5⟩
      · have hm : n ≤ a + bs := by have := of_decide_eq_false hm; omega
        exact nxt q4 l4 A4 B4 fun x y hx hxy hy => C4 a hda (Nat.le_refl _) x y hx hxy (by omega)
end

section
variable {h : Hp} {w : Nat} {k : Bool} {L : LB} {bl N : Nat} {gv : Value} {gs : List Gp}

theorem rank_c (T : LSt h k w bl L N gv gs) (h0 : gs ≠ []) (hn : gs.length ≤ 1000000) (hg : ∀ g ∈ gs, 0 ≤ g.gr ∧ g.gr ≤ 1000) :
    CallsH Tryz.prog 167 #[vP bl] h fun e h' => e = .returned (.tuple #[]) ∧ ∃ gs', gs'.Perm gs ∧ Srt gs' 0 gs.length ∧ LSt h' k w bl L N gv gs' ∧ h'.size = h.size ∧ ∀ q, gv.ownBlock ≠ some q → h'[q]? = h[q]? := by
  rcases T.arr.2 with ⟨_, e2⟩ | ⟨gb, gc, cur, hgv, _⟩
  · exact (h0 (List.length_eq_zero_iff.1 e2)).elim
  have hgvc : cellsAt h bl (0 + 11) [sl gb gs.length gc] := by
    have := cellsAt_one (h := h) (b := bl) (o := 11) (v := gv) (cellH_at T.blk)
    rw [hgv] at this
    exact this
  subst hgv
  refine V167 _ h _ ⟨bl, 0, rfl, _, _, _, hgvc, V183 _ _ _ _ h _ ?_⟩
  have hobk : (sl gb gs.length gc).ownBlock = some gb := rfl
  have E : SEnv h gb gs.length gs := ⟨hn, fun g hm => ⟨(T.gp g hm).tag.ne (T.tagA hobk) (by decide), ⟨_, _, _, (T.gp g hm).blk⟩, (hg g hm).1, (hg g hm).2⟩⟩
  refine (stable_c (gc := gc) E ⟨T.arr, fun _ _ => rfl, rfl, .refl _⟩).mono ?_
  rintro en h' ⟨rfl, gs', A, S⟩
  have hl := A.len
  refine ⟨rfl, rfl, rfl, gs', A.perm, S, ?_, A.size, fun q hq => A.old q (fun e => hq (by rw [e]; exact hobk))⟩
  refine T.setList (fun q _ _ hq => A.old q (fun e => hq (by rw [e]; exact hobk))) ((A.old bl (T.tagL.ne (T.tagA hobk) (by decide))).trans T.blk) (by rw [hl]; exact A.own) (fun q hq => ?_) (fun g hm => .inl (A.perm.mem_iff.1 hm)) ?_ ?_ ?_
  · cases hq
    have hpos : 0 < gs'.length := by rw [hl]; exact List.length_pos_iff.2 h0
    have hc := A.own.cellsA
    cases hgs : gs' with
    | nil => rw [hgs] at hpos; simp at hpos
    | cons g r => rw [hgs] at hc; exact ⟨_, hc.1⟩
  · exact (A.perm.map _).nodup_iff.2 T.nd1
  · exact (A.perm.map _).nodup_iff.2 T.nd2
  · exact (A.perm.flatMap_right _).nodup_iff.2 T.nd3
end
end Go.Vc
