/- What is not too heavy. -/
import Derived.Test.YtloieaoglpjffaaS3PkE
set_option maxRecDepth 10000
namespace Go.Vc
open Go Go.Proofs

/-- What texts weigh. -/
def heavy (l : List It) : Nat := (l.map fun i => 1 + i.s.size / 16).sum

theorem heavy_snoc (l : List It) (i : It) : heavy (l ++ [i]) = heavy l + (1 + i.s.size / 16) := by simp [heavy]

theorem heavy_take {l : List It} {i : Nat} (hi : i < l.length) : heavy (l.take (i + 1)) = heavy (l.take i) + (1 + l[i].s.size / 16) := by
  rw [List.take_add_one, List.getElem?_eq_getElem hi]
  exact heavy_snoc _ _

section
variable {h : Hp} {p : Nat} {L : Int}

/-- turnoutref01.Scale.Take -/
theorem sTake_c (c : h[p]? = some (.cells #[vZ L] 82)) (n : Int) (h0 : 0 ≤ n) (h1 : n ≤ 4611686018427387904) (hL : L ≤ 4611686018427387904) : CallsH Try.prog 33 #[vP p, vZ n] h fun e h' =>
    Same (fun x => x = p) h h' ∧ h'[p]? = some (.cells #[vZ (if 0 ≤ L then L - n else L)] 82) ∧ e = .returned (.bool (decide (0 ≤ (if 0 ≤ L then L - n else L)))) := by
  refine V33 _ _ h _ ⟨p, 0, rfl, _, cellsAt_one (cellH_at c), fun hc => ?_, fun hc => ?_⟩
  · have hc : 0 ≤ L := of_decide_eq_true hc
    refine ⟨p, 0, rfl, _, cellsAt_one (cellH_at c), L - n, by rw [wrapI64] <;> omega, p, 0, rfl, rfl, wrAt_of c (by show 0 + 0 + 1 ≤ 1; decide) (.inl (Nat.zero_le _)), ?_⟩
    intro h1 e1
    have c1 : h1[p]? = some (.cells #[vZ (L - n)] 82) := by rw [e1, setsH_at c]; rfl
    refine ⟨p, 0, rfl, _, cellsAt_one (cellH_at c1), by rw [e1]; exact setsH_same rfl, by rw [if_pos hc]; exact c1, by rw [if_pos hc]⟩
  · have hc : ¬ 0 ≤ L := of_decide_eq_false hc
    refine ⟨p, 0, rfl, _, cellsAt_one (cellH_at c), Same.refl _ _, by rw [if_neg hc]; exact c, by rw [if_neg hc]⟩

/-- turnoutref01.Scale.Text -/
theorem sText_c (c : h[p]? = some (.cells #[vZ L] 82)) (s : ByteArray) (hs : s.size ≤ 140737488351232) (hL : L ≤ 4611686018427387904) : CallsH Try.prog 32 #[vP p, .string s] h fun e h' =>
    Same (fun x => x = p) h h' ∧ h'[p]? = some (.cells #[vZ (if 0 ≤ L then L - ((1 + s.size / 16 : Nat) : Int) else L)] 82) ∧ e = .returned (.bool (decide (0 ≤ (if 0 ≤ L then L - ((1 + s.size / 16 : Nat) : Int) else L)))) := by
  have e1 : IntKind.i64.wrap (Int.tdiv (s.size : Int) 16) = ((s.size / 16 : Nat) : Int) := by
    have : Int.tdiv (s.size : Int) 16 = ((s.size / 16 : Nat) : Int) := (Int.ofNat_tdiv _ 16).symm
    rw [this, wrapI64] <;> omega
  refine V32 _ _ h _ ⟨by decide, _, e1, ((1 + s.size / 16 : Nat) : Int), by rw [wrapI64] <;> omega, (sTake_c c _ (by omega) (by omega) hL).mono ?_⟩
  rintro e h1 ⟨y1, c1, rfl⟩
  exact ⟨_, rfl, y1, c1, rfl⟩

/-- turnoutref01.Scale.Fine -/
theorem sFine_c (c : h[p]? = some (.cells #[vZ L] 82)) : CallsH Try.prog 34 #[vP p] h fun e h' => h' = h ∧ e = .returned (.bool (decide (0 ≤ L))) :=
  V34 _ h _ ⟨p, 0, rfl, _, cellsAt_one (cellH_at c), rfl, rfl⟩

end

/-- turnoutlaw03.light -/
theorem light_c (l : List It) (hok : ∀ x ∈ l, x.Ok) (h : Hp) {P0 : Option Addr} {n c : Nat} (sg : SegS h P0 n 7 (l.map itV)) (hl : l.length ≤ 2199023255488) :
    CallsH Try.prog 9 #[.slice P0 n c] h fun e h' => Ext h h' ∧ ∃ b : Bool, e = .returned (.bool b) ∧ (b = true → heavy l ≤ 1048576) := by
  have hn : l.length = n := by have := sg.1; simpa using this
  refine V9 _ _ _ h _ (V31 h _ ?_)
  intro p h1 hp e1
  have x1 : Ext h h1 := by rw [e1]; exact Ext.push _ _
  have c1 : h1[p]? = some (.cells #[vZ 1048576] 82) := by rw [e1, hp]; exact push_last
  clear e1
  refine ⟨_, rfl, fun lv hr => ∃ (i : Nat) (all : Nat) (L : Int), lv = [vI all, vI i] ∧ i ≤ l.length ∧ Ext h hr ∧ hr[p]? = some (.cells #[vZ L] 82) ∧ heavy (l.take i) ≤ 1048576 ∧ all ≤ 36 * heavy (l.take i) ∧ L ≤ 1048576 - (heavy (l.take i) : Nat) ∧ -4194304 ≤ L, fun lv _ => (l.length - numAt lv 1).toNat,
    ⟨0, 0, 1048576, rfl, Nat.zero_le _, x1, c1, by simp [heavy], by simp [heavy], by simp [heavy], by decide⟩, ?_⟩
  rintro allv iv h2 ⟨i, all, L, hlv, hi, x2, c2, hw, hall, hL, hL0⟩
  cases hlv
  have cell : ∀ {hz : Hp}, Ext h hz → (hc : i < l.length) → ∃ b o, P0 = some ⟨b, o, none⟩ ∧ 0 ≤ (i : Int) ∧ (i : Int) < n ∧ ∀ j v, (itV l[i])[j]? = some v → cellsAt hz b ((o + Int.toNat (i : Int) * 7) + j) [v] := by
    intro hz xz hc
    obtain ⟨b, o, hp', g1, g2, g3⟩ := (sg.ext xz).get (i := i) (by simpa using hc)
    rw [List.getElem_map] at g3
    exact ⟨b, o, hp', g1, g2, g3⟩
  have hp' : h.size ≤ p := by omega
  have stop : ∀ (hz : Hp) (K : Int), Ext h hz → hz[p]? = some (.cells #[vZ K] 82) → (0 ≤ K → heavy l ≤ 1048576) →
      CallsH Try.prog 34 #[vP p] hz fun en hz' => ∃ b : Bool, en = .returned (.bool b) ∧ Ext h hz' ∧ ∃ b' : Bool, Ending.returned (Value.bool b) = .returned (.bool b') ∧ (b' = true → heavy l ≤ 1048576) := by
    intro hz K xz cz hk
    refine (sFine_c cz).mono ?_
    rintro e hz' ⟨rfl, rfl⟩
    exact ⟨_, rfl, xz, _, rfl, fun hb => hk (of_decide_eq_true hb)⟩
  refine ⟨fun _ hz => i < l.length ∧ Ext h hz ∧ ∃ K : Int, hz[p]? = some (.cells #[vZ K] 82) ∧ heavy (l.take (i + 1)) ≤ 1048576 ∧ K ≤ 1048576 - (heavy (l.take (i + 1)) : Nat) ∧ 0 ≤ K, ⟨fun hc => ?_, fun hc => ?_⟩, ?_⟩
  · have hc : i < l.length := by have := of_decide_eq_true hc; omega
    obtain ⟨b, o, hP, g1, g2, g3⟩ := cell x2 hc
    have hsz := (hok l[i] (List.getElem_mem hc)).s
    refine ⟨b, o, hP, g1, g2, _, g3 4 _ rfl, (sText_c c2 l[i].s hsz (by omega)).mono ?_⟩
    rintro e h3 ⟨y3, c3, rfl⟩
    have x3 : Ext h h3 := x2.over y3 fun x hx => by rw [show x = p from hx]; exact hp'
    have hs := heavy_take hc
    refine ⟨_, rfl, fun hk => ?_, fun hk => stop h3 _ x3 c3 fun hk2 => absurd hk2 (of_decide_eq_false hk)⟩
    have hk := of_decide_eq_true hk
    refine ⟨hc, x3, _, c3, ?_, ?_, hk⟩
    · split at hk <;> omega
    · split <;> omega
  · have hc : i = l.length := by have := of_decide_eq_false hc; omega
    refine stop h2 L x2 c2 fun _ => ?_
    rw [hc, List.take_of_length_le (Nat.le_refl _)] at hw
    exact hw
  · rintro h3 ⟨hc, x3, K, c3, hw3, hK, hK0⟩
    obtain ⟨b, o, hP, g1, g2, g3⟩ := cell x3 hc
    have hsz := (hok l[i] (List.getElem_mem hc)).s
    have hs := heavy_take hc
    refine ⟨((all + 20 : Nat) : Int), by rw [wrapI64] <;> omega, b, o, hP, g1, g2, _, g3 4 _ rfl, ((all + 20 + l[i].s.size : Nat) : Int), by rw [wrapI64] <;> omega, b, o, hP, g1, g2, _, g3 1 _ rfl, fun hk => ?_, fun hk => ?_⟩
    · have e6 : IntKind.i64.wrap (Int.tdiv ((all + 20 + l[i].s.size : Nat) : Int) 16) = (((all + 20 + l[i].s.size) / 16 : Nat) : Int) := by
        have : Int.tdiv ((all + 20 + l[i].s.size : Nat) : Int) 16 = (((all + 20 + l[i].s.size) / 16 : Nat) : Int) := (Int.ofNat_tdiv _ 16).symm
        rw [this, wrapI64] <;> omega
      refine ⟨by decide, _, e6, (sTake_c c3 _ (by omega) (by omega) (by omega)).mono ?_⟩
      rintro e h4 ⟨y4, c4, rfl⟩
      refine ⟨_, rfl, _, incI (by omega), ⟨i + 1, all + 20 + l[i].s.size, _, rfl, hc, x3.over y4 fun x hx => by rw [show x = p from hx]; exact hp', c4, hw3, by omega, ?_, ?_⟩, by simp only [numAt]; omega⟩
      · split <;> omega
      · split <;> omega
    · exact ⟨_, incI (by omega), ⟨i + 1, all + 20 + l[i].s.size, K, rfl, hc, x3, c3, hw3, by omega, by omega, by omega⟩, by simp only [numAt]; omega⟩

end Go.Vc
