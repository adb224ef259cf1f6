/- CkptNil, CkptLays. -/
import Derived.Test.YtlidgpojlgochaaGreatDoorS9ZCkJ
set_option maxRecDepth 10000
namespace Go.Vc
open Go Go.Proofs Go.MapKept

/-- turnoutref20.Lay -/
theorem refLay_c (s t : Int) (h0 : -9223372036854775808 ≤ t) (h : Hp) : CallsH Tryz.prog 91 #[vZ s, vZ t] h fun e h' => Ext h h' ∧ e = .returned (.tuple #[.agg (lyV (layF s t).1).toArray, vZ (layF s t).2]) := by
  refine V91 _ _ h _ ?_
  intro b h1 hb e1
  have x1 : Ext h h1 := by rw [e1]; exact Ext.push _ _
  have c1 : h1[b]? = some (.cells (lyV (0, 0)).toArray 37) := by rw [e1, hb, zerosLay]; exact push_last
  clear e1
  have fin : ∀ (l : Int × Int) (c : Int) (h2 : Hp), layF s t = (l, c) → h2 = setsH h1 b 0 (lyV l) → ∃ f0 f1 : Int, cellsAt h2 b 0 [vZ f0, vZ f1] ∧ Ext h h2 ∧ Ending.returned (.tuple #[.agg #[vZ f0, vZ f1], vZ c]) = .returned (.tuple #[.agg (lyV (layF s t).1).toArray, vZ (layF s t).2]) := by
    intro l c h2 el e2
    have c2 := (ly_set c1 l).2.2.2
    rw [← e2] at c2
    refine ⟨_, _, cellsAt_all (vs := lyV l) c2, ?_, by rw [el]; rfl⟩
    rw [e2]
    exact x1.over (setsH_same (B := fun x => x = b) rfl) fun x hx => by omega
  refine ⟨infoLay, fun l hq => hq = h1 ∧ ¬ (s < 1 ∨ 4096 < s ∨ t < 1), ⟨decide (s < 1 ∨ 4096 < s ∨ t < 1), ⟨fun hc => ⟨rfl, ?_⟩, fun hc => ⟨fun hd => ⟨rfl, ?_⟩, fun hd => ⟨rfl, ?_⟩⟩⟩, fun hB => ?_, fun hB => ⟨rfl, of_decide_eq_false hB⟩⟩, ?_⟩
  · have hc := of_decide_eq_true hc; simp [hc]
  · have hd := of_decide_eq_true hd; simp [hd]
  · have hc := of_decide_eq_false hc; have hd := of_decide_eq_false hd
    apply decide_eq_decide.2; omega
  · have hB := of_decide_eq_true hB
    obtain ⟨q1, q2, q3, _⟩ := ly_set c1 (0, 0)
    refine ⟨rfl, q2, q3, fun h2 e2 => ?_⟩
    obtain ⟨f0, f1, g1, g2, g3⟩ := fin (0, 0) 1 h2 (by unfold layF; rw [if_pos hB]) e2
    exact ⟨f0, f1, g1, g2, g3⟩
  rintro h1' ⟨rfl, hA⟩
  obtain ⟨k1, k2, k3⟩ := half_b (s := s) (by omega) (by omega)
  have iff : ((s - 3).tdiv 2 < t ∨ s < 3) ↔ (4096 < t ∨ s - 2 - 2 * t < 1) := by
    by_cases h3 : 3 ≤ s
    · rw [Int.tdiv_eq_ediv_of_nonneg (by omega)]; omega
    · omega
  refine ⟨fun l hq => hq = h1' ∧ ¬ ((s - 3).tdiv 2 < t ∨ s < 3), ⟨decide (4096 < t ∨ s - 2 - 2 * t < 1), ⟨fun hc => ⟨rfl, ?_⟩, fun hc => ⟨_, wrapI64 (by omega) (by omega), 2 * t, ?_, s - 2 - 2 * t, ?_, rfl, ?_⟩⟩, fun hB => ?_, fun hB => ⟨rfl, fun hh => of_decide_eq_false hB (iff.1 hh)⟩⟩, ?_⟩
  · have hc := of_decide_eq_true hc; simp [hc]
  · have hc := of_decide_eq_false hc
    exact wrapI64 (by omega) (by omega)
  · have hc := of_decide_eq_false hc
    exact wrapI64 (by omega) (by omega)
  · have hc := of_decide_eq_false hc
    apply decide_eq_decide.2; omega
  · have hB := iff.2 (of_decide_eq_true hB)
    obtain ⟨q1, q2, q3, _⟩ := ly_set c1 (0, 0)
    refine ⟨rfl, q2, q3, fun h2 e2 => ?_⟩
    obtain ⟨f0, f1, g1, g2, g3⟩ := fin (0, 0) 202 h2 (by unfold layF; rw [if_neg hA, if_pos hB]) e2
    exact ⟨f0, f1, g1, g2, g3⟩
  rintro h1'' ⟨rfl, hC⟩
  have hC' : ¬ (4096 < t ∨ s - 2 - 2 * t < 1) := fun h => hC (iff.2 h)
  obtain ⟨q1, q2, q3, _⟩ := ly_set c1 (t, s - 2 - 2 * t)
  refine ⟨_, wrapI64 (by omega) (by omega), _, wrapI64 (by omega) (by omega), _, wrapI64 (by omega) (by omega), rfl, q2, q3, fun h2 e2 => ?_⟩
  obtain ⟨f0, f1, g1, g2, g3⟩ := fin (t, s - 2 - 2 * t) 0 h2 (by unfold layF; rw [if_neg hA, if_neg hC]) e2
  exact ⟨f0, f1, g1, g2, g3⟩

/-- turnoutref20.Next -/
theorem refNext_c (H : Hd) (above : Nat) (h : Hp) : CallsH Tryz.prog 52 #[.agg (hdV H).toArray, vU above] h fun e h' => Ext h h' ∧ e = .returned (.tuple #[.agg (hdV (nextF H above).1).toArray, vZ (nextF H above).2]) := by
  refine V52 _ _ _ _ _ _ h _ ?_
  intro a h0 ha e0
  have x0 : Ext h h0 := by rw [e0]; exact Ext.push _ _
  have a0 : h0[a]? = some (.cells (hdV H).toArray 39) := by rw [e0, ha]; exact push_last
  clear e0
  intro b h1 hb e1
  have x1 : Ext h h1 := by rw [e1]; exact x0.trans (Ext.push _ _)
  have c1 : h1[b]? = some (.cells (hdV Hd.no).toArray 39) := by rw [e1, hb, zerosHead]; exact push_last
  have a1 : h1[a]? = some (.cells (hdV H).toArray 39) := by rw [e1]; exact (Ext.push _ _).old a (Array.getElem?_eq_some_iff.1 a0).1 |>.trans a0
  have s0 := x0.size
  clear e1
  have fin : ∀ (l : Hd) (c : Int) (h2 : Hp), nextF H above = (l, c) → h2 = setsH h1 b 0 (hdV l) → ∃ f0 f1 f2 f3 f4 : Int, cellsAt h2 b 0 [vZ f0, .int .u64 f1, .int .u64 f2, vZ f3, vZ f4] ∧ Ext h h2 ∧ Ending.returned (.tuple #[.agg #[vZ f0, .int .u64 f1, .int .u64 f2, vZ f3, vZ f4], vZ c]) = .returned (.tuple #[.agg (hdV (nextF H above).1).toArray, vZ (nextF H above).2]) := by
    intro l c h2 el e2
    have c2 := (hd_set c1 l).2.2.2
    rw [← e2] at c2
    refine ⟨_, _, _, _, _, cellsAt_all (vs := hdV l) c2, ?_, by rw [el]; rfl⟩
    rw [e2]
    exact x1.over (setsH_same (B := fun x => x = b) rfl) fun x hx => by omega
  refine ⟨infoHead, fun l hq => hq = h1 ∧ ¬ (H.slot ≠ 0 ∧ H.slot ≠ 1), ⟨decide (H.slot ≠ 0 ∧ H.slot ≠ 1), ⟨_, cellsAt_one (cellH_at a1), fun hc => ⟨_, cellsAt_one (cellH_at a1), rfl, ?_⟩, fun hc => ⟨rfl, ?_⟩⟩, fun hB => ?_, fun hB => ⟨rfl, of_decide_eq_false hB⟩⟩, ?_⟩
  · have hc : H.slot ≠ 0 := of_decide_eq_true hc
    apply decide_eq_decide.2
    exact ⟨fun h => h.2, fun h => ⟨hc, h⟩⟩
  · have hc : ¬ H.slot ≠ 0 := of_decide_eq_false hc
    exact decide_eq_false fun h => hc h.1
  · have hB := of_decide_eq_true hB
    obtain ⟨q1, q2, q3, _⟩ := hd_set c1 Hd.no
    refine ⟨rfl, q2, q3, fun h2 e2 => ?_⟩
    obtain ⟨f0, f1, f2, f3, f4, g1, g2, g3⟩ := fin Hd.no 1 h2 (by unfold nextF; rw [if_pos hB]) e2
    exact ⟨f0, f1, f2, f3, f4, g1, g2, g3⟩
  rintro h1' ⟨rfl, hA⟩
  refine ⟨fun l hq => hq = h1' ∧ ¬ (9223372036854775807 ≤ H.gen ∨ 9223372036854775807 ≤ max above H.ep), ⟨decide (9223372036854775807 ≤ H.gen ∨ 9223372036854775807 ≤ max above H.ep), ⟨_, cellsAt_one (cellH_at a1), fun hc => ⟨rfl, ?_⟩, fun hc => ⟨_, cellsAt_one (cellH_at a1), fun hd => ⟨rfl, ?_⟩, fun hd => ⟨rfl, ?_⟩⟩⟩, fun hB => ?_, fun hB => ⟨rfl, of_decide_eq_false hB⟩⟩, ?_⟩
  · have hc : (9223372036854775807 : Int) ≤ (H.gen : Int) := of_decide_eq_true hc
    exact decide_eq_true (.inl (by omega))
  · have hd : (9223372036854775807 : Int) ≤ (H.ep : Int) := of_decide_eq_true hd
    exact decide_eq_true (.inr (by omega))
  · have hc : ¬ (9223372036854775807 : Int) ≤ (H.gen : Int) := of_decide_eq_false hc
    have hd : ¬ (9223372036854775807 : Int) ≤ (H.ep : Int) := of_decide_eq_false hd
    apply decide_eq_decide.2; omega
  · have hB := of_decide_eq_true hB
    obtain ⟨q1, q2, q3, _⟩ := hd_set c1 Hd.no
    refine ⟨rfl, q2, q3, fun h2 e2 => ?_⟩
    obtain ⟨f0, f1, f2, f3, f4, g1, g2, g3⟩ := fin Hd.no 201 h2 (by unfold nextF; rw [if_neg hA, if_pos hB]) e2
    exact ⟨f0, f1, f2, f3, f4, g1, g2, g3⟩
  rintro h1'' ⟨rfl, hC⟩
  obtain ⟨q1, q2, q3, _⟩ := hd_set c1 ⟨1 - H.slot, H.gen + 1, max above H.ep + 1, H.ls, H.ll⟩
  refine ⟨_, cellsAt_one (cellH_at a1), (1 - H.slot), wrapI64 (by omega) (by omega), _, cellsAt_one (cellH_at a1), ((H.gen + 1 : Nat) : Int), by rw [wrapU64]; omega, _, cellsAt_one (cellH_at a1), ((max above H.ep + 1 : Nat) : Int), by rw [wrapU64]; omega, _, _, hd_lay a1, rfl, q2, q3, fun h2 e2 => ?_⟩
  obtain ⟨f0, f1, f2, f3, f4, g1, g2, g3⟩ := fin ⟨1 - H.slot, H.gen + 1, max above H.ep + 1, H.ls, H.ll⟩ 0 h2 (by unfold nextF; rw [if_neg hA, if_neg hC]) e2
  exact ⟨f0, f1, f2, f3, f4, g1, g2, g3⟩

end Go.Vc
