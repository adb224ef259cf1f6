import Derived.Test.YtlidgpojlgochaaGreatDoorS9ZPkR
import Derived.Test.YtlidgpojlgochaaGreatDoorS9ZFrX
import Derived.Test.YtlidgpojlgochaaGreatDoorEqM
set_option maxRecDepth 10000
/- Checkpoints: what heads are, and the small functions of the layer. -/
namespace Go.Vc
open Go Go.Proofs Go.MapKept

structure Hd where
  slot : Int
  gen : Nat
  ep : Nat
  ls : Int
  ll : Int
  deriving DecidableEq

def hdV (h : Hd) : List Value := [vZ h.slot, vU h.gen, vU h.ep, vZ h.ls, vZ h.ll]
def Hd.no : Hd := ⟨0, 0, 0, 0, 0⟩
def lyV (l : Int × Int) : List Value := [vZ l.1, vZ l.2]
structure Hd.Ok (h : Hd) : Prop where
  s0 : -9223372036854775808 ≤ h.slot
  s1 : h.slot ≤ 9223372036854775807
  g : h.gen < 18446744073709551616
  e : h.ep < 18446744073709551616
  a0 : -9223372036854775808 ≤ h.ls
  a1 : h.ls ≤ 9223372036854775807
  l0 : -9223372036854775808 ≤ h.ll
  l1 : h.ll ≤ 9223372036854775807

def layF (sectors slot : Int) : (Int × Int) × Int :=
  if sectors < 1 ∨ 4096 < sectors ∨ slot < 1 then ((0, 0), 1) else if (sectors - 3).tdiv 2 < slot ∨ sectors < 3 then ((0, 0), 202) else ((slot, sectors - 2 - 2 * slot), 0)
def nextF (h : Hd) (above : Nat) : Hd × Int :=
  if h.slot ≠ 0 ∧ h.slot ≠ 1 then (Hd.no, 1) else if 9223372036854775807 ≤ h.gen ∨ 9223372036854775807 ≤ max above h.ep then (Hd.no, 201) else (⟨1 - h.slot, h.gen + 1, max above h.ep + 1, h.ls, h.ll⟩, 0)
def isNum (n : Nat) : Bool := decide (1 ≤ n ∧ n ≤ 9223372036854775807)
def rightB (l : Int × Int) (c : Int) (h : Hd) : Bool := decide (c = 0 ∧ l = (h.ls, h.ll) ∧ (h.slot = 0 ∨ h.slot = 1) ∧ isNum h.gen = true ∧ isNum h.ep = true)
def rightH (sectors : Nat) (h : Hd) : Bool := rightB (layF sectors h.ls).1 (layF sectors h.ls).2 h
def placeH (h : Hd) : Int := 2 + h.slot * h.ls
def mostH (h : Hd) : Int := min (491 * h.ls) 2097152

theorem zerosLay : zeros Tryz.prog 37 = (lyV (0, 0)).toArray := by kernel_rfl
theorem zerosHead : zeros Tryz.prog 39 = (hdV Hd.no).toArray := by kernel_rfl
theorem infoLay : ∃ i z, Tryz.prog.info? 37 = some i ∧ i.zero = some z := by
  have : ((Tryz.prog.info? 37).bind (·.zero)).isSome = true := by kernel_rfl
  obtain ⟨z, hz⟩ := Option.isSome_iff_exists.1 this
  obtain ⟨i, hi, hz⟩ := Option.bind_eq_some_iff.1 hz
  exact ⟨i, z, hi, hz⟩
theorem infoHead : ∃ i z, Tryz.prog.info? 39 = some i ∧ i.zero = some z := by
  have : ((Tryz.prog.info? 39).bind (·.zero)).isSome = true := by kernel_rfl
  obtain ⟨z, hz⟩ := Option.isSome_iff_exists.1 this
  obtain ⟨i, hi, hz⟩ := Option.bind_eq_some_iff.1 hz
  exact ⟨i, z, hi, hz⟩

/-- A struct's cells, set anew. -/
theorem ly_set {h : Hp} {b : Nat} {t : TypeId} {f : Int × Int} (c : h[b]? = some (.cells (lyV f).toArray t)) (g : Int × Int) :
    List.length (lyV g) = 2 ∧ (∀ v ∈ lyV g, v.oneCell' = true) ∧ wrAt h b 0 2 ∧ (setsH h b 0 (lyV g))[b]? = some (.cells (lyV g).toArray t) :=
  ⟨rfl, by simp [lyV, Value.oneCell'], (all_set c (lyV g) rfl).1, (all_set c (lyV g) rfl).2⟩
theorem hd_set {h : Hp} {b : Nat} {t : TypeId} {f : Hd} (c : h[b]? = some (.cells (hdV f).toArray t)) (g : Hd) :
    List.length (hdV g) = 5 ∧ (∀ v ∈ hdV g, v.oneCell' = true) ∧ wrAt h b 0 5 ∧ (setsH h b 0 (hdV g))[b]? = some (.cells (hdV g).toArray t) :=
  ⟨rfl, by simp [hdV, Value.oneCell'], (all_set c (hdV g) rfl).1, (all_set c (hdV g) rfl).2⟩
theorem hd_lay {h : Hp} {b : Nat} {t : TypeId} {f : Hd} (c : h[b]? = some (.cells (hdV f).toArray t)) : cellsAt h b (0 + 3) [vZ f.ls, vZ f.ll] :=
  cellsAt_of c fun j hj => by
    match j, hj with
    | 0, _ => rfl
    | 1, _ => rfl

theorem layPlain : fieldsAre Tryz.prog 37 [(3, 0), (3, 1)] = true := by kernel_rfl
theorem headPlain : fieldsAre Tryz.prog 39 [(3, 0), (35, 1), (35, 2), (37, 3)] = true := by kernel_rfl
theorem uIntH : Tryz.prog.underlying 3 = some (.int .i64) := by kernel_rfl
theorem uU64H : Tryz.prog.underlying 35 = some (.int .u64) := by kernel_rfl
theorem uLay : ∃ fs, Tryz.prog.underlying 37 = some (.struct fs) := by
  have : (match Tryz.prog.underlying 37 with | some (.struct _) => true | _ => false) = true := by kernel_rfl
  split at this
  · rename_i fs h; exact ⟨fs, h⟩
  · cases this
theorem sLay : (Tryz.prog.info? 37).map (·.size) = some 2 := by kernel_rfl

theorem eq_lay (f g : Int × Int) (d : Nat) (w : World) : (Op.equalIn (d + 1 + 1) 37 (.agg (lyV f).toArray) (.agg (lyV g).toArray)).run Tryz.prog w = .ok (decide (f = g)) w := by
  have h := eqvF (P := Tryz.prog) layPlain (k := 1) (xs := (lyV f).toArray) (ys := (lyV g).toArray) (bs := [decide (f.1 = g.1), decide (f.2 = g.2)]) rfl (by
    intro j s b hs hb
    match j with
    | 0 => cases hs; cases hb; exact fld_int uIntH _ _ 0 rfl rfl
    | 1 => cases hs; cases hb; exact fld_int uIntH _ _ 0 rfl rfl
    | j + 2 => simp at hs) d w
  have e : ([decide (f.1 = g.1), decide (f.2 = g.2)].all id) = decide (f = g) := by
    simp only [List.all_cons, List.all_nil, id, Bool.and_true]
    rw [← Bool.decide_and]
    apply decide_eq_decide.2
    exact Prod.ext_iff.symm
  rw [e] at h
  exact h
theorem eqv_lay (f g : Int × Int) : EqV Tryz.prog 37 (.agg (lyV f).toArray) (.agg (lyV g).toArray) (decide (f = g)) := eqvOf (k := 2) (by decide) fun d w => eq_lay f g d w

theorem Hd.ext {f g : Hd} (h1 : f.slot = g.slot) (h2 : f.gen = g.gen) (h3 : f.ep = g.ep) (h4 : f.ls = g.ls) (h5 : f.ll = g.ll) : f = g := by
  cases f; cases g; simp only at h1 h2 h3 h4 h5; subst h1 h2 h3 h4 h5; rfl

theorem eqv_hd (f g : Hd) : EqV Tryz.prog 39 (.agg (hdV f).toArray) (.agg (hdV g).toArray) (decide (f = g)) := by
  refine eqvOf (k := 3) (by decide) fun d w => ?_
  obtain ⟨fs, hfs⟩ := uLay
  have h := eqvF (P := Tryz.prog) headPlain (k := 2) (xs := (hdV f).toArray) (ys := (hdV g).toArray) (bs := [decide (f.slot = g.slot), decide ((f.gen : Int) = g.gen), decide ((f.ep : Int) = g.ep), decide ((f.ls, f.ll) = (g.ls, g.ll))]) rfl (by
    intro j s b hs hb
    match j with
    | 0 => cases hs; cases hb; exact fld_int uIntH _ _ 1 rfl rfl
    | 1 => cases hs; cases hb; exact fld_int uU64H _ _ 1 rfl rfl
    | 2 => cases hs; cases hb; exact fld_int uU64H _ _ 1 rfl rfl
    | 3 => cases hs; cases hb; exact fld_agg hfs sLay fun d w => eq_lay (f.ls, f.ll) (g.ls, g.ll) d w
    | j + 4 => simp at hs) d w
  have e : ([decide (f.slot = g.slot), decide ((f.gen : Int) = g.gen), decide ((f.ep : Int) = g.ep), decide ((f.ls, f.ll) = (g.ls, g.ll))].all id) = decide (f = g) := by
    simp only [List.all_cons, List.all_nil, id, Bool.and_true]
    rw [← Bool.decide_and, ← Bool.decide_and, ← Bool.decide_and]
    apply decide_eq_decide.2
    constructor
    · rintro ⟨h1, h2, h3, h4⟩
      obtain ⟨h5, h6⟩ := Prod.mk.inj h4
      exact Hd.ext h1 (by omega) (by omega) h5 h6
    · rintro rfl; exact ⟨rfl, rfl, rfl, rfl⟩
  rw [e] at h
  exact h

theorem half_b {s : Int} (h1 : 1 ≤ s) (h2 : s ≤ 4096) : -1 ≤ (s - 3).tdiv 2 ∧ (s - 3).tdiv 2 ≤ 2046 ∧ (3 ≤ s → 2 * (s - 3).tdiv 2 ≤ s - 3) := by
  by_cases h3 : 3 ≤ s
  · rw [Int.tdiv_eq_ediv_of_nonneg (by omega)]; omega
  · have : s = 1 ∨ s = 2 := by omega
    rcases this with rfl | rfl <;> decide

/-- ckpt.Lay -/
theorem layout_c (s t : Int) (ht : t ≤ 9223372036854775807) (h : Hp) : CallsH Tryz.prog 13 #[vZ s, vZ t] h fun e h' => Ext h h' ∧ e = .returned (.tuple #[.agg (lyV (layF s t).1).toArray, vZ (layF s t).2]) := by
  refine V13 _ _ h _ ?_
  intro b h1 hb e1
  have x1 : Ext h h1 := by rw [e1]; exact Ext.push _ _
  have c1 : h1[b]? = some (.cells (lyV (0, 0)).toArray 37) := by rw [e1, hb, zerosLay]; exact push_last
  clear e1
  have fin : ∀ (l : Int × Int) (c : Int) (h2 : Hp), layF s t = (l, c) → h2 = setsH h1 b 0 (lyV l) → ∃ f0 f1 : Int, cellsAt h2 b 0 [vZ f0, vZ f1] ∧ Ext h h2 ∧ Ending.returned (.tuple #[.agg #[vZ f0, vZ f1], vZ c]) = .returned (.tuple #[.agg (lyV (layF s t).1).toArray, vZ (layF s t).2]) := by
    intro l c h2 el e2
    have c2 := (ly_set c1 l).2.2.2
    rw [← e2] at c2
    refine ⟨_, _, cellsAt_all (vs := lyV l) c2, ?_, by rw [el]; rfl⟩
    rw [e2]
    exact x1.over (setsH_same (B := fun x => x = b) rfl) fun x hx => by omega
  refine ⟨infoLay, fun l hq => hq = h1 ∧ ¬ (s < 1 ∨ 4096 < s ∨ t < 1), ⟨decide (s < 1 ∨ 4096 < s ∨ t < 1), ⟨fun hc => ⟨rfl, ?_⟩, fun hc => ⟨fun hd => ⟨rfl, ?_⟩, fun hd => ⟨rfl, ?_⟩⟩⟩, fun hB => ?_, fun hB => ⟨rfl, of_decide_eq_false hB⟩⟩, ?_⟩
  · have hc := of_decide_eq_true hc; simp [hc]
  · have hd := of_decide_eq_true hd; simp [hd]
  · have hc := of_decide_eq_false hc; have hd := of_decide_eq_false hd
    apply decide_eq_decide.2; omega
  · have hB := of_decide_eq_true hB
    obtain ⟨q1, q2, q3, _⟩ := ly_set c1 (0, 0)
    refine ⟨rfl, q2, q3, fun h2 e2 => ?_⟩
    obtain ⟨f0, f1, g1, g2, g3⟩ := fin (0, 0) 1 h2 (by unfold layF; rw [if_pos hB]) e2
    exact ⟨f0, f1, g1, g2, g3⟩
  rintro h1' ⟨rfl, hA⟩
  obtain ⟨k1, k2, k3⟩ := half_b (s := s) (by omega) (by omega)
  refine ⟨fun l hq => hq = h1' ∧ ¬ ((s - 3).tdiv 2 < t ∨ s < 3), ⟨decide ((s - 3).tdiv 2 < t ∨ s < 3), ⟨_, wrapI64 (by omega) (by omega), by decide, _, wrapI64 (by omega) (by omega), fun hc => ⟨rfl, ?_⟩, fun hc => ⟨rfl, ?_⟩⟩, fun hB => ?_, fun hB => ⟨rfl, of_decide_eq_false hB⟩⟩, ?_⟩
  · have hc := of_decide_eq_true hc; simp [hc]
  · have hc := of_decide_eq_false hc
    apply decide_eq_decide.2; omega
  · have hB := of_decide_eq_true hB
    obtain ⟨q1, q2, q3, _⟩ := ly_set c1 (0, 0)
    refine ⟨rfl, q2, q3, fun h2 e2 => ?_⟩
    obtain ⟨f0, f1, g1, g2, g3⟩ := fin (0, 0) 202 h2 (by unfold layF; rw [if_neg hA, if_pos hB]) e2
    exact ⟨f0, f1, g1, g2, g3⟩
  rintro h1'' ⟨rfl, hC⟩
  obtain ⟨q1, q2, q3, _⟩ := ly_set c1 (t, s - 2 - 2 * t)
  refine ⟨_, wrapI64 (by omega) (by omega), _, wrapI64 (by omega) (by omega), _, wrapI64 (by omega) (by omega), rfl, q2, q3, fun h2 e2 => ?_⟩
  obtain ⟨f0, f1, g1, g2, g3⟩ := fin (t, s - 2 - 2 * t) 0 h2 (by unfold layF; rw [if_neg hA, if_neg hC]) e2
  exact ⟨f0, f1, g1, g2, g3⟩

/-- ckpt.Next -/
theorem next_c (H : Hd) (above : Nat) (h : Hp) : CallsH Tryz.prog 17 #[.agg (hdV H).toArray, vU above] h fun e h' => Ext h h' ∧ e = .returned (.tuple #[.agg (hdV (nextF H above).1).toArray, vZ (nextF H above).2]) := by
  refine V17 _ _ _ _ _ _ h _ ?_
  intro a h0 ha e0
  have x0 : Ext h h0 := by rw [e0]; exact Ext.push _ _
  have a0 : h0[a]? = some (.cells (hdV H).toArray 39) := by rw [e0, ha]; exact push_last
  clear e0
  intro b h1 hb e1
  have x1 : Ext h h1 := by rw [e1]; exact x0.trans (Ext.push _ _)
  have c1 : h1[b]? = some (.cells (hdV Hd.no).toArray 39) := by rw [e1, hb, zerosHead]; exact push_last
  have a1 : h1[a]? = some (.cells (hdV H).toArray 39) := by rw [e1]; exact (Ext.push _ _).old a (Array.getElem?_eq_some_iff.1 a0).1 |>.trans a0
  have s0 := x0.size
  clear e1
  have fin : ∀ (l : Hd) (c : Int) (h2 : Hp), nextF H above = (l, c) → h2 = setsH h1 b 0 (hdV l) → ∃ f0 f1 f2 f3 f4 : Int, cellsAt h2 b 0 [vZ f0, .int .u64 f1, .int .u64 f2, vZ f3, vZ f4] ∧ Ext h h2 ∧ Ending.returned (.tuple #[.agg #[vZ f0, .int .u64 f1, .int .u64 f2, vZ f3, vZ f4], vZ c]) = .returned (.tuple #[.agg (hdV (nextF H above).1).toArray, vZ (nextF H above).2]) := by
    intro l c h2 el e2
    have c2 := (hd_set c1 l).2.2.2
    rw [← e2] at c2
    refine ⟨_, _, _, _, _, cellsAt_all (vs := hdV l) c2, ?_, by rw [el]; rfl⟩
    rw [e2]
    exact x1.over (setsH_same (B := fun x => x = b) rfl) fun x hx => by omega
  refine ⟨infoHead, fun l hq => hq = h1 ∧ ¬ (H.slot ≠ 0 ∧ H.slot ≠ 1), ⟨decide (H.slot ≠ 0 ∧ H.slot ≠ 1), ⟨_, cellsAt_one (cellH_at a1), fun hc => ⟨_, cellsAt_one (cellH_at a1), rfl, ?_⟩, fun hc => ⟨rfl, ?_⟩⟩, fun hB => ?_, fun hB => ⟨rfl, of_decide_eq_false hB⟩⟩, ?_⟩
  · have hc : H.slot ≠ 0 := of_decide_eq_true hc
    apply decide_eq_decide.2
    exact ⟨fun h => h.2, fun h => ⟨hc, h⟩⟩
  · have hc : ¬ H.slot ≠ 0 := of_decide_eq_false hc
    exact decide_eq_false fun h => hc h.1
  · have hB := of_decide_eq_true hB
    obtain ⟨q1, q2, q3, _⟩ := hd_set c1 Hd.no
    refine ⟨rfl, q2, q3, fun h2 e2 => ?_⟩
    obtain ⟨f0, f1, f2, f3, f4, g1, g2, g3⟩ := fin Hd.no 1 h2 (by unfold nextF; rw [if_pos hB]) e2
    exact ⟨f0, f1, f2, f3, f4, g1, g2, g3⟩
  rintro h1' ⟨rfl, hA⟩
  refine ⟨_, cellsAt_one (cellH_at a1), fun l hq => hq = h1' ∧ ¬ (9223372036854775807 ≤ H.gen ∨ 9223372036854775807 ≤ max above H.ep), ⟨decide (9223372036854775807 ≤ H.gen ∨ 9223372036854775807 ≤ max above H.ep), ⟨_, cellsAt_one (cellH_at a1), fun hc => ⟨rfl, ?_⟩, fun hc => ⟨rfl, ?_⟩⟩, fun hB => ?_, fun hB => ⟨rfl, of_decide_eq_false hB⟩⟩, ?_⟩
  · have hc : (9223372036854775807 : Int) ≤ (H.gen : Int) := of_decide_eq_true hc
    exact decide_eq_true (.inl (by omega))
  · have hc : ¬ (9223372036854775807 : Int) ≤ (H.gen : Int) := of_decide_eq_false hc
    apply decide_eq_decide.2; omega
  · have hB := of_decide_eq_true hB
    obtain ⟨q1, q2, q3, _⟩ := hd_set c1 Hd.no
    refine ⟨rfl, q2, q3, fun h2 e2 => ?_⟩
    obtain ⟨f0, f1, f2, f3, f4, g1, g2, g3⟩ := fin Hd.no 201 h2 (by unfold nextF; rw [if_neg hA, if_pos hB]) e2
    exact ⟨f0, f1, f2, f3, f4, g1, g2, g3⟩
  rintro h1'' ⟨rfl, hC⟩
  obtain ⟨q1, q2, q3, _⟩ := hd_set c1 ⟨1 - H.slot, H.gen + 1, max above H.ep + 1, H.ls, H.ll⟩
  refine ⟨_, cellsAt_one (cellH_at a1), (1 - H.slot), wrapI64 (by omega) (by omega), _, cellsAt_one (cellH_at a1), ((H.gen + 1 : Nat) : Int), by rw [wrapU64]; omega, ((max above H.ep + 1 : Nat) : Int), by rw [wrapU64]; omega, _, _, hd_lay a1, rfl, q2, q3, fun h2 e2 => ?_⟩
  obtain ⟨f0, f1, f2, f3, f4, g1, g2, g3⟩ := fin ⟨1 - H.slot, H.gen + 1, max above H.ep + 1, H.ls, H.ll⟩ 0 h2 (by unfold nextF; rw [if_neg hA, if_neg hC]) e2
  exact ⟨f0, f1, f2, f3, f4, g1, g2, g3⟩

/-- ckpt.numbered -/
theorem numbered_c (n : Nat) (h : Hp) : CallsH Tryz.prog 63 #[vU n] h fun e h' => h' = h ∧ e = .returned (.bool (isNum n)) := by
  refine V63 _ h _ ⟨isNum n, ⟨fun hc => ⟨rfl, ?_⟩, fun hc => ⟨rfl, ?_⟩⟩, rfl, rfl⟩
  · have hc := of_decide_eq_true hc
    unfold isNum
    apply decide_eq_decide.2; omega
  · have hc := of_decide_eq_false hc
    unfold isNum
    exact decide_eq_false (by omega)

theorem place_c (H : Hd) (hs : H.slot = 0 ∨ H.slot = 1) (h0 : -1000000000 ≤ H.ls) (h1 : H.ls ≤ 1000000000) (h : Hp) : CallsH Tryz.prog 45 #[.agg (hdV H).toArray] h fun e h' => Ext h h' ∧ e = .returned (vZ (placeH H)) := by
  refine V45 _ _ _ _ _ h _ ?_
  intro b hq hb e1
  have x1 : Ext h hq := by rw [e1]; exact Ext.push _ _
  have c1 : hq[b]? = some (.cells (hdV H).toArray 39) := by rw [e1, hb]; exact push_last
  have hb' : -1000000000 ≤ H.slot * H.ls ∧ H.slot * H.ls ≤ 1000000000 := by rcases hs with e | e <;> rw [e] <;> omega
  refine ⟨_, cellsAt_one (cellH_at c1), H.ls, cellsAt_one (cellH_at c1), _, wrapI64 (by omega) (by omega), _, wrapI64 (by omega) (by omega), x1, rfl⟩

theorem most_c (H : Hd) (h0 : -1000000000 ≤ H.ls) (h1 : H.ls ≤ 1000000000) (h : Hp) : CallsH Tryz.prog 41 #[.agg (hdV H).toArray] h fun e h' => Ext h h' ∧ e = .returned (vZ (mostH H)) := by
  refine V41 _ _ _ _ _ h _ ?_
  intro b hq hb e1
  have x1 : Ext h hq := by rw [e1]; exact Ext.push _ _
  have c1 : hq[b]? = some (.cells (hdV H).toArray 39) := by rw [e1, hb]; exact push_last
  exact ⟨H.ls, cellsAt_one (cellH_at c1), _, wrapI64 (by omega) (by omega), x1, rfl⟩

end Go.Vc

/- Checkpoints: which heads are right, and what a head says. -/
namespace Go.Vc
open Go Go.Proofs Go.MapKept

def RightTail (R : Ending → Hp → Prop) (hq : Hp) (a b : Nat) (code : Int) : Prop :=
   (((decide (code = (0 : Int))) = true →
     ∃ x19f0_ : Int, ∃ x19f1_ : Int, cellsAt hq b 0 [(Value.int .i64 x19f0_), (Value.int .i64 x19f1_)] ∧
     ∃ x21f0_ : Int, ∃ x21f1_ : Int, cellsAt hq a (0 + 3) [(Value.int .i64 x21f0_), (Value.int .i64 x21f1_)] ∧
     ∃ x22_, EqV Tryz.prog 37 (Value.agg #[(Value.int .i64 x19f0_), (Value.int .i64 x19f1_)]) (Value.agg #[(Value.int .i64 x21f0_), (Value.int .i64 x21f1_)]) x22_ ∧
     ((x22_ = true →
       ∃ x26_ : Int, cellsAt hq a (0 + 0) [(Value.int .i64 x26_)] ∧
       (((decide (x26_ = (0 : Int))) = true →
         ∃ x36_ : Int, cellsAt hq a (0 + 1) [(Value.int .u64 x36_)] ∧
         CallsH Tryz.prog 63 #[(Value.int .u64 x36_)] hq fun en_2 hp_5 =>
         ∃ x37_ : Bool, en_2 = .returned (Value.bool x37_) ∧
         ((x37_ = true →
           ∃ x41_ : Int, cellsAt hp_5 a (0 + 2) [(Value.int .u64 x41_)] ∧
           CallsH Tryz.prog 63 #[(Value.int .u64 x41_)] hp_5 fun en_3 hp_6 =>
           ∃ x42_ : Bool, en_3 = .returned (Value.bool x42_) ∧
           R (.returned (Value.bool x42_)) hp_6) ∧
          (x37_ = false →
           R (.returned (Value.bool false)) hp_5))) ∧
        ((decide (x26_ = (0 : Int))) = false →
         ∃ x30_ : Int, cellsAt hq a (0 + 0) [(Value.int .i64 x30_)] ∧
         (((decide (x30_ = (1 : Int))) = true →
           ∃ x36_1 : Int, cellsAt hq a (0 + 1) [(Value.int .u64 x36_1)] ∧
           CallsH Tryz.prog 63 #[(Value.int .u64 x36_1)] hq fun en_4 hp_7 =>
           ∃ x37_1 : Bool, en_4 = .returned (Value.bool x37_1) ∧
           ((x37_1 = true →
             ∃ x41_1 : Int, cellsAt hp_7 a (0 + 2) [(Value.int .u64 x41_1)] ∧
             CallsH Tryz.prog 63 #[(Value.int .u64 x41_1)] hp_7 fun en_5 hp_8 =>
             ∃ x42_1 : Bool, en_5 = .returned (Value.bool x42_1) ∧
             R (.returned (Value.bool x42_1)) hp_8) ∧
            (x37_1 = false →
             R (.returned (Value.bool false)) hp_7))) ∧
          ((decide (x30_ = (1 : Int))) = false →
           R (.returned (Value.bool false)) hq))))) ∧
      (x22_ = false →
       R (.returned (Value.bool false)) hq))) ∧
    ((decide (code = (0 : Int))) = false →
     R (.returned (Value.bool false)) hq))

theorem right_tail {R : Ending → Hp → Prop} {hq : Hp} {a b : Nat} {H : Hd} {l : Int × Int} {code : Int} (ca : hq[a]? = some (.cells (hdV H).toArray 39)) (cl : hq[b]? = some (.cells (lyV l).toArray 37))
    (hR : R (.returned (.bool (rightB l code H))) hq) : RightTail R hq a b code := by
  have ends : ∀ (x : Bool), x = rightB l code H → R (.returned (.bool x)) hq := fun x e => by rw [e]; exact hR
  have nums : code = 0 → l = (H.ls, H.ll) → (H.slot = 0 ∨ H.slot = 1) → CallsH Tryz.prog 63 #[vU H.gen] hq fun en_2 hp_5 => ∃ x37_ : Bool, en_2 = .returned (Value.bool x37_) ∧
      ((x37_ = true → ∃ x41_ : Int, cellsAt hp_5 a (0 + 2) [(Value.int .u64 x41_)] ∧ CallsH Tryz.prog 63 #[(Value.int .u64 x41_)] hp_5 fun en_3 hp_6 => ∃ x42_ : Bool, en_3 = .returned (Value.bool x42_) ∧ R (.returned (Value.bool x42_)) hp_6) ∧
       (x37_ = false → R (.returned (Value.bool false)) hp_5)) := by
    intro hc hl hs
    refine (numbered_c H.gen hq).mono ?_
    rintro e h1 ⟨rfl, rfl⟩
    refine ⟨_, rfl, fun hg => ⟨_, cellsAt_one (cellH_at ca), (numbered_c H.ep _).mono ?_⟩, fun hg => ends _ ?_⟩
    · rintro e h2 ⟨rfl, rfl⟩
      refine ⟨_, rfl, ends _ ?_⟩
      unfold rightB
      simp [hc, hl, hs, hg]
    · unfold rightB
      simp [hg]
  refine ⟨fun hc => ⟨l.1, l.2, cellsAt_all (vs := lyV l) cl, H.ls, H.ll, hd_lay ca, _, eqv_lay l (H.ls, H.ll), fun he => ⟨H.slot, cellsAt_one (cellH_at ca), fun hs => ?_, fun hs => ⟨H.slot, cellsAt_one (cellH_at ca), fun hs1 => ?_, fun hs1 => ends _ ?_⟩⟩, fun he => ends _ ?_⟩, fun hc => ends _ ?_⟩
  · exact ⟨_, cellsAt_one (cellH_at ca), nums (of_decide_eq_true hc) (of_decide_eq_true he) (.inl (of_decide_eq_true hs))⟩
  · exact ⟨_, cellsAt_one (cellH_at ca), nums (of_decide_eq_true hc) (of_decide_eq_true he) (.inr (of_decide_eq_true hs1))⟩
  · have h1 := of_decide_eq_false hs
    have h2 := of_decide_eq_false hs1
    exact (decide_eq_false fun h => h.2.2.1.elim h1 h2).symm
  · have h1 := of_decide_eq_false he
    exact (decide_eq_false fun h => h1 h.2.1).symm
  · have h1 := of_decide_eq_false hc
    exact (decide_eq_false fun h => h1 h.1).symm

/-- ckpt.right -/
theorem right_c {h : Hp} {B : Nat → Prop} {d : Nat} {σ : DS} (D : DiskAt dI h B d σ) (H : Hd) (ok1 : H.ls ≤ 9223372036854775807) : CallsH Tryz.prog 40 #[vP d, .agg (hdV H).toArray] h fun e h' => Ext h h' ∧ e = .returned (.bool (rightH σ.safe.length H)) := by
  refine V40 _ _ _ _ _ _ h _ ?_
  intro a h1 ha e1
  have x1 : Ext h h1 := by rw [e1]; exact Ext.push _ _
  have ca : h1[a]? = some (.cells (hdV H).toArray 39) := by rw [e1, ha]; exact push_last
  clear e1
  obtain ⟨L, hL⟩ : ∃ L, L = layF (σ.safe.length : Int) H.ls := ⟨_, rfl⟩
  have fin : ∀ (hq : Hp) (b : Nat), Ext h hq → hq[a]? = some (.cells (hdV H).toArray 39) → hq[b]? = some (.cells (lyV (0, 0)).toArray 37) → a < b → 
      (List.length (lyV L.1) = 2 ∧ (∀ c ∈ lyV L.1, c.oneCell' = true) ∧ wrAt hq b 0 2 ∧ ∀ hp_4, hp_4 = setsH hq b 0 (lyV L.1) → hp_4[a]? = some (.cells (hdV H).toArray 39) ∧
        RightTail (fun e h' => Ext h h' ∧ e = .returned (.bool (rightH σ.safe.length H))) hp_4 a b L.2) := by
    intro hq b xq ca cb hab
    obtain ⟨q1, q2, q3, q4⟩ := ly_set cb L.1
    refine ⟨rfl, q2, q3, fun h4 e4 => ?_⟩
    have ca4 : h4[a]? = some (.cells (hdV H).toArray 39) := by rw [e4]; exact (setsH_ne (by omega)).trans ca
    refine ⟨ca4, right_tail ca4 (by rw [e4]; exact q4) ⟨?_, ?_⟩⟩
    · rw [e4]
      exact xq.over (setsH_same (B := fun x => x = b) rfl) fun x hx => by omega
    · unfold rightH
      rw [hL]
  have la := (Array.getElem?_eq_some_iff.1 ca).1
  have C : ∀ h' : Hp, h'[a]? = some (.cells (hdV H).toArray 39) → cellsAt h' a ((0 + 3) + 0) [vZ H.ls] := fun h' c => cellsAt_one (cellH_at c)
  have go : ∀ (hq : Hp), Ext h1 hq → ∀ hr, Ext hq hr → hr[a]? = some (.cells (hdV H).toArray 39) ∧ Ext h hr := fun hq x hr y => ⟨((x.trans y).old a la).trans ca, x1.trans (x.trans y)⟩
  refine ⟨⟨fun h' => h'[a]? = some (.cells (hdV H).toArray 39), ca, (size_c (D.ext x1)).mono ?_⟩, ⟨fun h' => h'[a]? = some (.cells (hdV H).toArray 39), ca, ?_⟩, ⟨fun h' => h'[a]? = some (.cells (hdV H).toArray 39), ca, (size_c (D.ext x1)).mono ?_⟩⟩
  · rintro e h2 ⟨rfl, rfl⟩
    refine ⟨_, rfl, ca, _, C, (layout_c _ H.ls ok1 _).mono ?_⟩
    rintro e h3 ⟨x3, rfl⟩
    rw [← hL]
    obtain ⟨c3, x03⟩ := go _ (Ext.refl _) _ x3
    refine ⟨_, _, _, rfl, c3, ?_⟩
    intro b h4 hb e4
    have x4 : Ext h3 h4 := by rw [e4]; exact Ext.push _ _
    obtain ⟨c4, x04⟩ := go _ x3 _ x4
    have cb : h4[b]? = some (.cells (lyV (0, 0)).toArray 37) := by rw [e4, hb, zerosLay]; exact push_last
    have s3 := x3.size
    exact ⟨infoLay, c4, fin h4 b x04 c4 cb (by omega)⟩
  · intro b h4 hb e4
    have x4 : Ext h1 h4 := by rw [e4]; exact Ext.push _ _
    obtain ⟨c4, x04⟩ := go _ (Ext.refl _) _ x4
    have cb : h4[b]? = some (.cells (lyV (0, 0)).toArray 37) := by rw [e4, hb, zerosLay]; exact push_last
    refine ⟨infoLay, c4, (size_c (D.ext x04)).mono ?_⟩
    rintro e h2 ⟨rfl, rfl⟩
    refine ⟨_, rfl, c4, _, C, (layout_c _ H.ls ok1 _).mono ?_⟩
    rintro e h3 ⟨x3, rfl⟩
    rw [← hL]
    obtain ⟨c3, x03⟩ := go _ x4 _ x3
    exact ⟨_, _, _, rfl, c3, fin h3 b x03 c3 ((x3.old b (Array.getElem?_eq_some_iff.1 cb).1).trans cb) (by omega)⟩
  · rintro e h2 ⟨rfl, rfl⟩
    refine ⟨_, rfl, ca, _, C, ?_⟩
    intro b h4 hb e4
    have x4 : Ext h2 h4 := by rw [e4]; exact Ext.push _ _
    obtain ⟨c4, x04⟩ := go _ (Ext.refl _) _ x4
    have cb : h4[b]? = some (.cells (lyV (0, 0)).toArray 37) := by rw [e4, hb, zerosLay]; exact push_last
    refine ⟨infoLay, c4, (layout_c _ H.ls ok1 _).mono ?_⟩
    rintro e h3 ⟨x3, rfl⟩
    rw [← hL]
    obtain ⟨c3, x03⟩ := go _ x4 _ x3
    exact ⟨_, _, _, rfl, c3, fin h3 b x03 c3 ((x3.old b (Array.getElem?_eq_some_iff.1 cb).1).trans cb) (by omega)⟩

/-- What a head says of itself and of its image. -/
def bodyL (H : Hd) (image : ByteArray) : List UInt8 := beL 8 H.ep ++ (beL 4 H.ls.toNat ++ (beL 4 image.size ++ beL 4 (sumB [image]).toNat))
theorem bodyL_length (H : Hd) (image : ByteArray) : (bodyL H image).length = 20 := by
  unfold bodyL
  simp only [List.length_append, beL_length]

theorem fixed_ok {w : Wr} (k : Nat) (h0 : w.e = 0) {n : Nat} {K : Int} (hK : K = (k : Int)) (h1 : 1 ≤ k) (h8 : k ≤ 8) (hn : n < 2 ^ (8 * k)) : w.fixed n K = ⟨w.b ++ beL k n, 0⟩ := by
  subst hK
  unfold Wr.fixed
  rw [if_neg (by omega), if_neg (by omega), if_neg, Int.toNat_natCast]
  · rw [← h0]
  · rintro ⟨_, h⟩
    rw [Int.toNat_natCast] at h
    exact h (Nat.div_eq_of_lt hn)

/-- ckpt.said -/
theorem saidH_c (H : Hd) (image : ByteArray) (h0 : 0 ≤ H.ls) (h1 : H.ls < 4294967296) (h2 : H.ep < 18446744073709551616) (h3 : image.size < 4294967296) (h : Hp) (hh : Halves h) :
    CallsH Tryz.prog 42 #[.agg (hdV H).toArray, .string image] h fun e h' => Ext h h' ∧ e = .returned (.tuple #[.string (tx (bodyL H image)), vZ 0]) := by
  refine V42 _ _ _ _ _ _ h _ ?_
  intro b g1 hb e1
  have x1 : Ext h g1 := by rw [e1]; exact Ext.push _ _
  have c1 : g1[b]? = some (.cells (hdV H).toArray 39) := by rw [e1, hb]; exact push_last
  clear e1
  have lb := (Array.getElem?_eq_some_iff.1 c1).1
  refine (wnew_c g1).mono ?_
  rintro e g2 ⟨x2, W2, rfl⟩
  -- each call keeps what was there
  have stay : ∀ {hq hr : Hp} {C : Nat → Prop}, Ext g1 hq → (∀ x, C x → g1.size ≤ x) → Same C hq hr → Ext g1 hr := fun x hC y => x.over y fun b hb => hC b hb
  have grow : ∀ {hq hr : Hp} {C : Nat → Prop}, Ext g1 hq → (∀ x, C x → g1.size ≤ x) → ∀ x, GrowB C hq hr x → g1.size ≤ x := fun x hC b hb => hb.elim (hC b) fun hb => by have := x.size; omega
  have b2 : ∀ x, GrowB NoB g1 g2 x → g1.size ≤ x := fun b hb => hb.elim (fun hf => hf.elim) fun hb => hb.1
  have cb : ∀ {hq : Hp}, Ext g1 hq → hq[b]? = some (.cells (hdV H).toArray 39) := fun x => (x.old b lb).trans c1
  refine ⟨_, rfl, _, cellsAt_one (cellH_at (cb x2)), (wfixed_c W2 H.ep 8 (by omega) (by simp [Wr.new])).mono ?_⟩
  rintro e g3 ⟨y3, W3, rfl⟩
  rw [fixed_ok (K := (8 : Int)) 8 rfl rfl (by decide) (by decide) (by omega)] at W3
  have x3 := stay x2 b2 y3
  have b3 := grow (hr := g3) x2 b2
  have hls : H.ls.toNat < 4294967296 := by omega
  refine ⟨rfl, H.ls, cellsAt_one (cellH_at (cb x3)), ((H.ls.toNat : Nat) : Int), by rw [wrapU64]; omega, (wfixed_c W3 H.ls.toNat 4 (by omega) (by simp [Wr.new, beL_length])).mono ?_⟩
  rintro e g4 ⟨y4, W4, rfl⟩
  rw [fixed_ok (K := (4 : Int)) 4 rfl rfl (by decide) (by decide) (by omega)] at W4
  have x4 := stay x3 b3 y4
  have b4 := grow (hr := g4) x3 b3
  refine ⟨rfl, ((image.size : Nat) : Int), by rw [wrapU64]; omega, (wfixed_c W4 image.size 4 (by omega) (by simp [Wr.new, beL_length])).mono ?_⟩
  rintro e g5 ⟨y5, W5, rfl⟩
  rw [fixed_ok (K := (4 : Int)) 4 rfl rfl (by decide) (by decide) (by omega)] at W5
  have x5 := stay x4 b4 y5
  have b5 := grow (hr := g5) x4 b4
  refine ⟨rfl, semH_build rowS (vs := [.string image]) rfl rfl (by simp) (by simp) (by simp [Value.oneCell']) ⟨_, _, _, rfl, ?_⟩⟩
  have x6 : Ext g5 (g5.push (.cells [Value.string image].toArray 9)) := Ext.push _ _
  have s6 : Seg (g5.push (.cells [Value.string image].toArray 9)) (some ⟨g5.size, 0, none⟩) 1 ([image].map Value.string) := ⟨rfl, .inr ⟨_, _, rfl, cellsAt_all push_last⟩⟩
  generalize (g5.push (.cells [Value.string image].toArray 9)) = g6 at x6 s6
  refine (sum_c [image] (by intro y hy; simp at hy; subst hy; simp only [maxLen]; omega) g6 (hh.ext ((x1.trans x5).trans x6)) s6 (by decide)).mono ?_
  rintro e g7 ⟨rfl, rfl⟩
  have hsum : (sumB [image]).toNat < 4294967296 := (sumB [image]).isLt
  refine ⟨_, rfl, (((sumB [image]).toNat : Nat) : Int), by rw [wrapU64]; omega, (wfixed_c (W5.ext x6) (sumB [image]).toNat 4 (by omega) (by simp [Wr.new, beL_length])).mono ?_⟩
  rintro e g8 ⟨y8, W8, rfl⟩
  rw [fixed_ok (K := (4 : Int)) 4 rfl rfl (by decide) (by decide) (by omega)] at W8
  have x8 := stay (x5.trans x6) b5 y8
  refine ⟨rfl, (wout_c W8).mono ?_⟩
  rintro e g9 ⟨x9, rfl⟩
  refine ⟨_, _, rfl, (x1.trans x8).trans x9, ?_⟩
  unfold Wr.out
  rw [if_neg (by simp)]
  show Ending.returned (.tuple #[.string (tx ([] ++ beL 8 H.ep ++ beL 4 H.ls.toNat ++ beL 4 image.size ++ beL 4 (sumB [image]).toNat)), vZ 0]) = _
  unfold bodyL
  simp only [List.nil_append, List.append_assoc]

end Go.Vc

