/- Checkpoints: what heads are, and the small functions of the layer. -/
import Derived.Test.YtlidgpojlgochaaDoorS9CPkR
import Derived.Test.YtlidgpojlgochaaDoorS9CPkB
import Derived.Test.YtlidgpojlgochaaDoorS9CFrX
import Derived.Test.YtlidgpojlgochaaDoorEqM
set_option maxRecDepth 10000
namespace Go.Vc
open Go Go.Proofs Go.MapKept

structure Hd where
  slot : Int
  gen : Nat
  ep : Nat
  ls : Int
  ll : Int
  deriving DecidableEq

def hdV (h : Hd) : List Value := [vZ h.slot, vU h.gen, vU h.ep, vZ h.ls, vZ h.ll]
def Hd.no : Hd := ⟨0, 0, 0, 0, 0⟩
def lyV (l : Int × Int) : List Value := [vZ l.1, vZ l.2]
structure Hd.Ok (h : Hd) : Prop where
  s0 : -9223372036854775808 ≤ h.slot
  s1 : h.slot ≤ 9223372036854775807
  g : h.gen < 18446744073709551616
  e : h.ep < 18446744073709551616
  a0 : -9223372036854775808 ≤ h.ls
  a1 : h.ls ≤ 9223372036854775807
  l0 : -9223372036854775808 ≤ h.ll
  l1 : h.ll ≤ 9223372036854775807

def layF (sectors slot : Int) : (Int × Int) × Int :=
  if sectors < 1 ∨ 4096 < sectors ∨ slot < 1 then ((0, 0), 1) else if (sectors - 3).tdiv 2 < slot ∨ sectors < 3 then ((0, 0), 202) else ((slot, sectors - 2 - 2 * slot), 0)
def nextF (h : Hd) (above : Nat) : Hd × Int :=
  if h.slot ≠ 0 ∧ h.slot ≠ 1 then (Hd.no, 1) else if 9223372036854775807 ≤ h.gen ∨ 9223372036854775807 ≤ max above h.ep then (Hd.no, 201) else (⟨1 - h.slot, h.gen + 1, max above h.ep + 1, h.ls, h.ll⟩, 0)
def isNum (n : Nat) : Bool := decide (1 ≤ n ∧ n ≤ 9223372036854775807)
def rightB (l : Int × Int) (c : Int) (h : Hd) : Bool := decide (c = 0 ∧ l = (h.ls, h.ll) ∧ (h.slot = 0 ∨ h.slot = 1) ∧ isNum h.gen = true ∧ isNum h.ep = true)
def rightH (sectors : Nat) (h : Hd) : Bool := rightB (layF sectors h.ls).1 (layF sectors h.ls).2 h
def placeH (h : Hd) : Int := 2 + h.slot * h.ls
def mostH (h : Hd) : Int := min (491 * h.ls) 2097152

theorem zerosLay : zeros Tryd.prog 24 = (lyV (0, 0)).toArray := by kernel_rfl
theorem zerosHead : zeros Tryd.prog 26 = (hdV Hd.no).toArray := by kernel_rfl
theorem infoLay : ∃ i z, Tryd.prog.info? 24 = some i ∧ i.zero = some z := by
  have : ((Tryd.prog.info? 24).bind (·.zero)).isSome = true := by kernel_rfl
  obtain ⟨z, hz⟩ := Option.isSome_iff_exists.1 this
  obtain ⟨i, hi, hz⟩ := Option.bind_eq_some_iff.1 hz
  exact ⟨i, z, hi, hz⟩
theorem infoHead : ∃ i z, Tryd.prog.info? 26 = some i ∧ i.zero = some z := by
  have : ((Tryd.prog.info? 26).bind (·.zero)).isSome = true := by kernel_rfl
  obtain ⟨z, hz⟩ := Option.isSome_iff_exists.1 this
  obtain ⟨i, hi, hz⟩ := Option.bind_eq_some_iff.1 hz
  exact ⟨i, z, hi, hz⟩

/-- A struct's cells, set anew. -/
theorem ly_set {h : Hp} {b : Nat} {t : TypeId} {f : Int × Int} (c : h[b]? = some (.cells (lyV f).toArray t)) (g : Int × Int) :
    List.length (lyV g) = 2 ∧ (∀ v ∈ lyV g, v.oneCell' = true) ∧ wrAt h b 0 2 ∧ (setsH h b 0 (lyV g))[b]? = some (.cells (lyV g).toArray t) :=
  ⟨rfl, by simp [lyV, Value.oneCell'], (all_set c (lyV g) rfl).1, (all_set c (lyV g) rfl).2⟩
theorem hd_set {h : Hp} {b : Nat} {t : TypeId} {f : Hd} (c : h[b]? = some (.cells (hdV f).toArray t)) (g : Hd) :
    List.length (hdV g) = 5 ∧ (∀ v ∈ hdV g, v.oneCell' = true) ∧ wrAt h b 0 5 ∧ (setsH h b 0 (hdV g))[b]? = some (.cells (hdV g).toArray t) :=
  ⟨rfl, by simp [hdV, Value.oneCell'], (all_set c (hdV g) rfl).1, (all_set c (hdV g) rfl).2⟩
theorem hd_lay {h : Hp} {b : Nat} {t : TypeId} {f : Hd} (c : h[b]? = some (.cells (hdV f).toArray t)) : cellsAt h b (0 + 3) [vZ f.ls, vZ f.ll] :=
  cellsAt_of c fun j hj => by
    match j, hj with
    | 0, _ => rfl
    | 1, _ => rfl

theorem layPlain : fieldsAre Tryd.prog 24 [(3, 0), (3, 1)] = true := by kernel_rfl
theorem headPlain : fieldsAre Tryd.prog 26 [(3, 0), (22, 1), (22, 2), (24, 3)] = true := by kernel_rfl
theorem uIntH : Tryd.prog.underlying 3 = some (.int .i64) := by kernel_rfl
theorem uU64H : Tryd.prog.underlying 22 = some (.int .u64) := by kernel_rfl
theorem uLay : ∃ fs, Tryd.prog.underlying 24 = some (.struct fs) := by
  have : (match Tryd.prog.underlying 24 with | some (.struct _) => true | _ => false) = true := by kernel_rfl
  split at this
  · rename_i fs h; exact ⟨fs, h⟩
  · cases this
theorem sLay : (Tryd.prog.info? 24).map (·.size) = some 2 := by kernel_rfl

theorem eq_lay (f g : Int × Int) (d : Nat) (w : World) : (Op.equalIn (d + 1 + 1) 24 (.agg (lyV f).toArray) (.agg (lyV g).toArray)).run Tryd.prog w = .ok (decide (f = g)) w := by
  have h := eqvF (P := Tryd.prog) layPlain (k := 1) (xs := (lyV f).toArray) (ys := (lyV g).toArray) (bs := [decide (f.1 = g.1), decide (f.2 = g.2)]) rfl (by
    intro j s b hs hb
    match j with
    | 0 => cases hs; cases hb; exact fld_int uIntH _ _ 0 rfl rfl
    | 1 => cases hs; cases hb; exact fld_int uIntH _ _ 0 rfl rfl
    | j + 2 => simp at hs) d w
  have e : ([decide (f.1 = g.1), decide (f.2 = g.2)].all id) = decide (f = g) := by
    simp only [List.all_cons, List.all_nil, id, Bool.and_true]
    rw [← Bool.decide_and]
    apply decide_eq_decide.2
    exact Prod.ext_iff.symm
  rw [e] at h
  exact h
theorem eqv_lay (f g : Int × Int) : EqV Tryd.prog 24 (.agg (lyV f).toArray) (.agg (lyV g).toArray) (decide (f = g)) := eqvOf (k := 2) (by decide) fun d w => eq_lay f g d w

theorem Hd.ext {f g : Hd} (h1 : f.slot = g.slot) (h2 : f.gen = g.gen) (h3 : f.ep = g.ep) (h4 : f.ls = g.ls) (h5 : f.ll = g.ll) : f = g := by
  cases f; cases g; simp only at h1 h2 h3 h4 h5; subst h1 h2 h3 h4 h5; rfl

theorem eqv_hd (f g : Hd) : EqV Tryd.prog 26 (.agg (hdV f).toArray) (.agg (hdV g).toArray) (decide (f = g)) := by
  refine eqvOf (k := 3) (by decide) fun d w => ?_
  obtain ⟨fs, hfs⟩ := uLay
  have h := eqvF (P := Tryd.prog) headPlain (k := 2) (xs := (hdV f).toArray) (ys := (hdV g).toArray) (bs := [decide (f.slot = g.slot), decide ((f.gen : Int) = g.gen), decide ((f.ep : Int) = g.ep), decide ((f.ls, f.ll) = (g.ls, g.ll))]) rfl (by
    intro j s b hs hb
    match j with
    | 0 => cases hs; cases hb; exact fld_int uIntH _ _ 1 rfl rfl
    | 1 => cases hs; cases hb; exact fld_int uU64H _ _ 1 rfl rfl
    | 2 => cases hs; cases hb; exact fld_int uU64H _ _ 1 rfl rfl
    | 3 => cases hs; cases hb; exact fld_agg hfs sLay fun d w => eq_lay (f.ls, f.ll) (g.ls, g.ll) d w
    | j + 4 => simp at hs) d w
  have e : ([decide (f.slot = g.slot), decide ((f.gen : Int) = g.gen), decide ((f.ep : Int) = g.ep), decide ((f.ls, f.ll) = (g.ls, g.ll))].all id) = decide (f = g) := by
    simp only [List.all_cons, List.all_nil, id, Bool.and_true]
    rw [← Bool.decide_and, ← Bool.decide_and, ← Bool.decide_and]
    apply decide_eq_decide.2
    constructor
    · rintro ⟨h1, h2, h3, h4⟩
      obtain ⟨h5, h6⟩ := Prod.mk.inj h4
      exact Hd.ext h1 (by omega) (by omega) h5 h6
    · rintro rfl; exact ⟨rfl, rfl, rfl, rfl⟩
  rw [e] at h
  exact h

theorem half_b {s : Int} (h1 : 1 ≤ s) (h2 : s ≤ 4096) : -1 ≤ (s - 3).tdiv 2 ∧ (s - 3).tdiv 2 ≤ 2046 ∧ (3 ≤ s → 2 * (s - 3).tdiv 2 ≤ s - 3) := by
  by_cases h3 : 3 ≤ s
  · rw [Int.tdiv_eq_ediv_of_nonneg (by omega)]; omega
  · have : s = 1 ∨ s = 2 := by omega
    rcases this with rfl | rfl <;> decide

/-- ckpt.Lay -/
theorem layout_c (s t : Int) (ht : t ≤ 9223372036854775807) (h : Hp) : CallsH Tryd.prog 10 #[vZ s, vZ t] h fun e h' => Ext h h' ∧ e = .returned (.tuple #[.agg (lyV (layF s t).1).toArray, vZ (layF s t).2]) := by
  refine V10 _ _ h _ ?_
  intro b h1 hb e1
  have x1 : Ext h h1 := by rw [e1]; exact Ext.push _ _
  have c1 : h1[b]? = some (.cells (lyV (0, 0)).toArray 24) := by rw [e1, hb, zerosLay]; exact push_last
  clear e1
  have fin : ∀ (l : Int × Int) (c : Int) (h2 : Hp), layF s t = (l, c) → h2 = setsH h1 b 0 (lyV l) → ∃ f0 f1 : Int, cellsAt h2 b 0 [vZ f0, vZ f1] ∧ Ext h h2 ∧ Ending.returned (.tuple #[.agg #[vZ f0, vZ f1], vZ c]) = .returned (.tuple #[.agg (lyV (layF s t).1).toArray, vZ (layF s t).2]) := by
    intro l c h2 el e2
    have c2 := (ly_set c1 l).2.2.2
    rw [← e2] at c2
    refine ⟨_, _, cellsAt_all (vs := lyV l) c2, ?_, by rw [el]; rfl⟩
    rw [e2]
    exact x1.over (setsH_same (B := fun x => x = b) rfl) fun x hx => by omega
  refine ⟨infoLay, fun l hq => hq = h1 ∧ ¬ (s < 1 ∨ 4096 < s ∨ t < 1), ⟨decide (s < 1 ∨ 4096 < s ∨ t < 1), ⟨fun hc => ⟨rfl, ?_⟩, fun hc => ⟨fun hd => ⟨rfl, ?_⟩, fun hd => ⟨rfl, ?_⟩⟩⟩, fun hB => ?_, fun hB => ⟨rfl, of_decide_eq_false hB⟩⟩, ?_⟩
  · have hc := of_decide_eq_true hc; simp [hc]
  · have hd := of_decide_eq_true hd; simp [hd]
  · have hc := of_decide_eq_false hc; have hd := of_decide_eq_false hd
    apply decide_eq_decide.2; omega
  · have hB := of_decide_eq_true hB
    obtain ⟨q1, q2, q3, _⟩ := ly_set c1 (0, 0)
    refine ⟨rfl, q2, q3, fun h2 e2 => ?_⟩
    obtain ⟨f0, f1, g1, g2, g3⟩ := fin (0, 0) 1 h2 (by unfold layF; rw [if_pos hB]) e2
    exact ⟨f0, f1, g1, g2, g3⟩
  rintro h1' ⟨rfl, hA⟩
  obtain ⟨k1, k2, k3⟩ := half_b (s := s) (by omega) (by omega)
  refine ⟨fun l hq => hq = h1' ∧ ¬ ((s - 3).tdiv 2 < t ∨ s < 3), ⟨decide ((s - 3).tdiv 2 < t ∨ s < 3), ⟨_, wrapI64 (by omega) (by omega), by decide, _, wrapI64 (by omega) (by omega), fun hc => ⟨rfl, ?_⟩, fun hc => ⟨rfl, ?_⟩⟩, fun hB => ?_, fun hB => ⟨rfl, of_decide_eq_false hB⟩⟩, ?_⟩
  · have hc := of_decide_eq_true hc; simp [hc]
  · have hc := of_decide_eq_false hc
    apply decide_eq_decide.2; omega
  · have hB := of_decide_eq_true hB
    obtain ⟨q1, q2, q3, _⟩ := ly_set c1 (0, 0)
    refine ⟨rfl, q2, q3, fun h2 e2 => ?_⟩
    obtain ⟨f0, f1, g1, g2, g3⟩ := fin (0, 0) 202 h2 (by unfold layF; rw [if_neg hA, if_pos hB]) e2
    exact ⟨f0, f1, g1, g2, g3⟩
  rintro h1'' ⟨rfl, hC⟩
  obtain ⟨q1, q2, q3, _⟩ := ly_set c1 (t, s - 2 - 2 * t)
  refine ⟨_, wrapI64 (by omega) (by omega), _, wrapI64 (by omega) (by omega), _, wrapI64 (by omega) (by omega), rfl, q2, q3, fun h2 e2 => ?_⟩
  obtain ⟨f0, f1, g1, g2, g3⟩ := fin (t, s - 2 - 2 * t) 0 h2 (by unfold layF; rw [if_neg hA, if_neg hC]) e2
  exact ⟨f0, f1, g1, g2, g3⟩

/-- ckpt.Next -/
theorem next_c (H : Hd) (above : Nat) (h : Hp) : CallsH Tryd.prog 12 #[.agg (hdV H).toArray, vU above] h fun e h' => Ext h h' ∧ e = .returned (.tuple #[.agg (hdV (nextF H above).1).toArray, vZ (nextF H above).2]) := by
  refine V12 _ _ _ _ _ _ h _ ?_
  intro a h0 ha e0
  have x0 : Ext h h0 := by rw [e0]; exact Ext.push _ _
  have a0 : h0[a]? = some (.cells (hdV H).toArray 26) := by rw [e0, ha]; exact push_last
  clear e0
  intro b h1 hb e1
  have x1 : Ext h h1 := by rw [e1]; exact x0.trans (Ext.push _ _)
  have c1 : h1[b]? = some (.cells (hdV Hd.no).toArray 26) := by rw [e1, hb, zerosHead]; exact push_last
  have a1 : h1[a]? = some (.cells (hdV H).toArray 26) := by rw [e1]; exact (Ext.push _ _).old a (Array.getElem?_eq_some_iff.1 a0).1 |>.trans a0
  have s0 := x0.size
  clear e1
  have fin : ∀ (l : Hd) (c : Int) (h2 : Hp), nextF H above = (l, c) → h2 = setsH h1 b 0 (hdV l) → ∃ f0 f1 f2 f3 f4 : Int, cellsAt h2 b 0 [vZ f0, .int .u64 f1, .int .u64 f2, vZ f3, vZ f4] ∧ Ext h h2 ∧ Ending.returned (.tuple #[.agg #[vZ f0, .int .u64 f1, .int .u64 f2, vZ f3, vZ f4], vZ c]) = .returned (.tuple #[.agg (hdV (nextF H above).1).toArray, vZ (nextF H above).2]) := by
    intro l c h2 el e2
    have c2 := (hd_set c1 l).2.2.2
    rw [← e2] at c2
    refine ⟨_, _, _, _, _, cellsAt_all (vs := hdV l) c2, ?_, by rw [el]; rfl⟩
    rw [e2]
    exact x1.over (setsH_same (B := fun x => x = b) rfl) fun x hx => by omega
  refine ⟨infoHead, fun l hq => hq = h1 ∧ ¬ (H.slot ≠ 0 ∧ H.slot ≠ 1), ⟨decide (H.slot ≠ 0 ∧ H.slot ≠ 1), ⟨_, cellsAt_one (cellH_at a1), fun hc => ⟨_, cellsAt_one (cellH_at a1), rfl, ?_⟩, fun hc => ⟨rfl, ?_⟩⟩, fun hB => ?_, fun hB => ⟨rfl, of_decide_eq_false hB⟩⟩, ?_⟩
  · have hc : H.slot ≠ 0 := of_decide_eq_true hc
    apply decide_eq_decide.2
    exact ⟨fun h => h.2, fun h => ⟨hc, h⟩⟩
  · have hc : ¬ H.slot ≠ 0 := of_decide_eq_false hc
    exact decide_eq_false fun h => hc h.1
  · have hB := of_decide_eq_true hB
    obtain ⟨q1, q2, q3, _⟩ := hd_set c1 Hd.no
    refine ⟨rfl, q2, q3, fun h2 e2 => ?_⟩
    obtain ⟨f0, f1, f2, f3, f4, g1, g2, g3⟩ := fin Hd.no 1 h2 (by unfold nextF; rw [if_pos hB]) e2
    exact ⟨f0, f1, f2, f3, f4, g1, g2, g3⟩
  rintro h1' ⟨rfl, hA⟩
  refine ⟨_, cellsAt_one (cellH_at a1), fun l hq => hq = h1' ∧ ¬ (9223372036854775807 ≤ H.gen ∨ 9223372036854775807 ≤ max above H.ep), ⟨decide (9223372036854775807 ≤ H.gen ∨ 9223372036854775807 ≤ max above H.ep), ⟨_, cellsAt_one (cellH_at a1), fun hc => ⟨rfl, ?_⟩, fun hc => ⟨rfl, ?_⟩⟩, fun hB => ?_, fun hB => ⟨rfl, of_decide_eq_false hB⟩⟩, ?_⟩
  · have hc : (9223372036854775807 : Int) ≤ (H.gen : Int) := of_decide_eq_true hc
    exact decide_eq_true (.inl (by omega))
  · have hc : ¬ (9223372036854775807 : Int) ≤ (H.gen : Int) := of_decide_eq_false hc
    apply decide_eq_decide.2; omega
  · have hB := of_decide_eq_true hB
    obtain ⟨q1, q2, q3, _⟩ := hd_set c1 Hd.no
    refine ⟨rfl, q2, q3, fun h2 e2 => ?_⟩
    obtain ⟨f0, f1, f2, f3, f4, g1, g2, g3⟩ := fin Hd.no 201 h2 (by unfold nextF; rw [if_neg hA, if_pos hB]) e2
    exact ⟨f0, f1, f2, f3, f4, g1, g2, g3⟩
  rintro h1'' ⟨rfl, hC⟩
  obtain ⟨q1, q2, q3, _⟩ := hd_set c1 ⟨1 - H.slot, H.gen + 1, max above H.ep + 1, H.ls, H.ll⟩
  refine ⟨_, cellsAt_one (cellH_at a1), (1 - H.slot), wrapI64 (by omega) (by omega), _, cellsAt_one (cellH_at a1), ((H.gen + 1 : Nat) : Int), by rw [wrapU64]; omega, ((max above H.ep + 1 : Nat) : Int), by rw [wrapU64]; omega, _, _, hd_lay a1, rfl, q2, q3, fun h2 e2 => ?_⟩
  obtain ⟨f0, f1, f2, f3, f4, g1, g2, g3⟩ := fin ⟨1 - H.slot, H.gen + 1, max above H.ep + 1, H.ls, H.ll⟩ 0 h2 (by unfold nextF; rw [if_neg hA, if_neg hC]) e2
  exact ⟨f0, f1, f2, f3, f4, g1, g2, g3⟩

/-- ckpt.numbered -/
theorem numbered_c (n : Nat) (h : Hp) : CallsH Tryd.prog 51 #[vU n] h fun e h' => h' = h ∧ e = .returned (.bool (isNum n)) := by
  refine V51 _ h _ ⟨isNum n, ⟨fun hc => ⟨rfl, ?_⟩, fun hc => ⟨rfl, ?_⟩⟩, rfl, rfl⟩
  · have hc := of_decide_eq_true hc
    unfold isNum
    apply decide_eq_decide.2; omega
  · have hc := of_decide_eq_false hc
    unfold isNum
    exact decide_eq_false (by omega)

theorem place_c (H : Hd) (hs : H.slot = 0 ∨ H.slot = 1) (h0 : -1000000000 ≤ H.ls) (h1 : H.ls ≤ 1000000000) (h : Hp) : CallsH Tryd.prog 35 #[.agg (hdV H).toArray] h fun e h' => Ext h h' ∧ e = .returned (vZ (placeH H)) := by
  refine V35 _ _ _ _ _ h _ ?_
  intro b hq hb e1
  have x1 : Ext h hq := by rw [e1]; exact Ext.push _ _
  have c1 : hq[b]? = some (.cells (hdV H).toArray 26) := by rw [e1, hb]; exact push_last
  have hb' : -1000000000 ≤ H.slot * H.ls ∧ H.slot * H.ls ≤ 1000000000 := by rcases hs with e | e <;> rw [e] <;> omega
  refine ⟨_, cellsAt_one (cellH_at c1), H.ls, cellsAt_one (cellH_at c1), _, wrapI64 (by omega) (by omega), _, wrapI64 (by omega) (by omega), x1, rfl⟩

theorem most_c (H : Hd) (h0 : -1000000000 ≤ H.ls) (h1 : H.ls ≤ 1000000000) (h : Hp) : CallsH Tryd.prog 31 #[.agg (hdV H).toArray] h fun e h' => Ext h h' ∧ e = .returned (vZ (mostH H)) := by
  refine V31 _ _ _ _ _ h _ ?_
  intro b hq hb e1
  have x1 : Ext h hq := by rw [e1]; exact Ext.push _ _
  have c1 : hq[b]? = some (.cells (hdV H).toArray 26) := by rw [e1, hb]; exact push_last
  exact ⟨H.ls, cellsAt_one (cellH_at c1), _, wrapI64 (by omega) (by omega), x1, rfl⟩

end Go.Vc
