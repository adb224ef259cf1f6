/- TopLongest: contracts of the small functions on values. -/
import Derived.Test.YtamhpfdcnfgngaaGreatS15V
import Derived.Test.YtamhpfdcnfgngaaGreatEqM
import Derived.Test.YtamhpfdcnfgngaaGreatVcO
import Derived.Test.YtamhpfdcnfgngaaGreatEqM
set_option maxRecDepth 10000
namespace Go.Vc
open Go Go.Proofs Go.MapKept

theorem Ext.box {h hp : Hp} (x : Ext h hp) (o : Obj) : Ext h (hp.push o) := x.trans (Ext.push hp o)
theorem Ext.sets {h hp : Hp} (x : Ext h hp) {b o : Nat} (hb : h.size ≤ b) (vs : List Value) : Ext h (setsH hp b o vs) :=
  ⟨by rw [setsH_size]; exact x.size, fun i hi => (setsH_ne (by omega)).trans (x.old i hi)⟩
theorem Ext.at {h hp : Hp} (x : Ext h hp) {b : Nat} {o : Obj} (c : h[b]? = some o) : hp[b]? = some o := (x.old b (Array.getElem?_eq_some_iff.1 c).1).trans c

noncomputable abbrev zB : Array Value := zeros Tryz.prog 40
theorem info40 : ∃ i z, Tryz.prog.info? 40 = some i ∧ i.zero = some z := by
  have h : (Tryz.prog.info? 40).bind (·.zero) = some (.agg #[.int .u64 0, .int .u64 0]) := by kernel_rfl
  obtain ⟨i, h1, h2⟩ := Option.bind_eq_some_iff.1 h
  exact ⟨i, _, h1, h2⟩
theorem zB_size : zB.size = 2 := by kernel_rfl

theorem stoT {h hp : Hp} {b n : Nat} (x : Ext h hp) (hb : h.size ≤ b) {z : Array Value} {t : TypeId} (hc : hp[b]? = some (.cells z t)) {vs : List Value} (hl : vs.length = n) (hz : z.size = n) (h1 : ∀ v ∈ vs, v.oneCell' = true)
    {K : Hp → Prop} (hK : ∀ hp', Ext h hp' → hp'.size = hp.size → hp'[b]? = some (.cells vs.toArray t) → (∀ k, k ≠ b → hp'[k]? = hp[k]?) → K hp') :
    List.length vs = n ∧ (∀ c ∈ vs, c.oneCell' = true) ∧ wrAt hp b 0 n ∧ ∀ hp1, hp1 = setsH hp b 0 vs → K hp1 := by
  refine ⟨hl, h1, wrAt_of hc (by omega) (.inl (Nat.zero_le _)), ?_⟩
  rintro _ rfl
  refine hK _ (x.sets hb _) setsH_size ?_ (fun k hk => setsH_ne hk)
  rw [setsH_at hc, layC_all (by omega)]

theorem ret2 {h hp : Hp} {b : Nat} (x : Ext h hp) (hb : h.size ≤ b) {z : Array Value} {t : TypeId} (hc : hp[b]? = some (.cells z t)) (hz : z.size = 2) {k : IntKind} {a c : Int} {K : Int → Int → Hp → Prop} (hK : ∀ hp', Ext h hp' → K a c hp') :
    List.length [Value.int k a, Value.int k c] = 2 ∧ (∀ y ∈ [Value.int k a, Value.int k c], y.oneCell' = true) ∧ wrAt hp b 0 2 ∧ ∀ hp1, hp1 = setsH hp b 0 [Value.int k a, Value.int k c] →
      ∃ r0 : Int, ∃ r1 : Int, cellsAt hp1 b 0 [Value.int k r0, Value.int k r1] ∧ K r0 r1 hp1 :=
  stoT (n := 2) x hb hc rfl hz (by simp [Value.oneCell']) fun hp' e _ c _ => ⟨_, _, cellsAt_all c, hK hp' e⟩

section
variable {h : Hp}

theorem vand_c (a b : B128) : CallsH Tryz.prog 8 #[vB a, vB b] h (RetX (vB (a &&& b)) h) := by
  refine V8 _ _ _ _ h _ ?_
  rintro b0 h0 rfl rfl b1 h1 rfl rfl b2 h2 rfl rfl
  have x0 : Ext h (h.push (.cells #[vW (hiW a), vW (loW a)] 40)) := Ext.push _ _
  have x1 := Ext.push (h.push (.cells #[vW (hiW a), vW (loW a)] 40)) (.cells #[vW (hiW b), vW (loW b)] 40)
  have x2 := Ext.push ((h.push (.cells #[vW (hiW a), vW (loW a)] 40)).push (.cells #[vW (hiW b), vW (loW b)] 40)) (.cells zB 40)
  have c0 := (x1.trans x2).at (push_last (h := h) (o := .cells #[vW (hiW a), vW (loW a)] 40))
  have c1 := x2.at (push_last (h := h.push (.cells #[vW (hiW a), vW (loW a)] 40)) (o := .cells #[vW (hiW b), vW (loW b)] 40))
  refine ⟨info40, _, cellsAt_one (cellH_at c0), _, cellsAt_one (cellH_at c1), _, and64 _ _, _, cellsAt_one (cellH_at c0), _, cellsAt_one (cellH_at c1), _, and64 _ _, ?_⟩
  refine ret2 ((x0.trans x1).trans x2) (by simp; omega) push_last zB_size fun hp' e => ⟨?_, e⟩
  rw [← hi_and, ← lo_and]

theorem mand_c (a b : B128) : CallsH Tryz.prog 110 #[vB a, vB b] h (RetX (vB (a &&& b)) h) := by
  refine V110 _ _ _ _ h _ ?_
  rintro b0 h0 rfl rfl b1 h1 rfl rfl b2 h2 rfl rfl
  have x0 : Ext h (h.push (.cells #[vW (hiW a), vW (loW a)] 40)) := Ext.push _ _
  have x1 := Ext.push (h.push (.cells #[vW (hiW a), vW (loW a)] 40)) (.cells #[vW (hiW b), vW (loW b)] 40)
  have x2 := Ext.push ((h.push (.cells #[vW (hiW a), vW (loW a)] 40)).push (.cells #[vW (hiW b), vW (loW b)] 40)) (.cells zB 40)
  have c0 := (x1.trans x2).at (push_last (h := h) (o := .cells #[vW (hiW a), vW (loW a)] 40))
  have c1 := x2.at (push_last (h := h.push (.cells #[vW (hiW a), vW (loW a)] 40)) (o := .cells #[vW (hiW b), vW (loW b)] 40))
  refine ⟨info40, _, cellsAt_one (cellH_at c0), _, cellsAt_one (cellH_at c1), _, and64 _ _, _, cellsAt_one (cellH_at c0), _, cellsAt_one (cellH_at c1), _, and64 _ _, ?_⟩
  refine ret2 ((x0.trans x1).trans x2) (by simp; omega) push_last zB_size fun hp' e => ⟨?_, e⟩
  rw [← hi_and, ← lo_and]

theorem tand_c (a b : B128) : CallsH Tryz.prog 172 #[vB a, vB b] h (RetX (vB (a &&& b)) h) := by
  refine V172 _ _ _ _ h _ ?_
  rintro b0 h0 rfl rfl b1 h1 rfl rfl b2 h2 rfl rfl
  have x0 : Ext h (h.push (.cells #[vW (hiW a), vW (loW a)] 40)) := Ext.push _ _
  have x1 := Ext.push (h.push (.cells #[vW (hiW a), vW (loW a)] 40)) (.cells #[vW (hiW b), vW (loW b)] 40)
  have x2 := Ext.push ((h.push (.cells #[vW (hiW a), vW (loW a)] 40)).push (.cells #[vW (hiW b), vW (loW b)] 40)) (.cells zB 40)
  have c0 := (x1.trans x2).at (push_last (h := h) (o := .cells #[vW (hiW a), vW (loW a)] 40))
  have c1 := x2.at (push_last (h := h.push (.cells #[vW (hiW a), vW (loW a)] 40)) (o := .cells #[vW (hiW b), vW (loW b)] 40))
  refine ⟨info40, _, cellsAt_one (cellH_at c0), _, cellsAt_one (cellH_at c1), _, and64 _ _, _, cellsAt_one (cellH_at c0), _, cellsAt_one (cellH_at c1), _, and64 _ _, ?_⟩
  refine ret2 ((x0.trans x1).trans x2) (by simp; omega) push_last zB_size fun hp' e => ⟨?_, e⟩
  rw [← hi_and, ← lo_and]

theorem mones_c (n : Nat) (hn : n ≤ 128) : CallsH Tryz.prog 108 #[vI n] h (RetX (vB (onesB n)) h) := by
  refine V108 _ h _ ?_
  rintro b0 h0 rfl rfl
  have x0 : Ext h (h.push (.cells zB 40)) := Ext.push _ _
  refine ⟨info40, fun h1 => ?_, fun h1 => ?_⟩
  · have h1 : 64 < n := by have := of_decide_eq_true h1; omega
    obtain ⟨e1, e2⟩ := ones_hi ⟨n, by omega⟩ h1
    refine ⟨((n - 64 : Nat) : Int), by rw [wrapI64] <;> omega, by omega, _, rfl, _, pow_less (by omega), ?_⟩
    refine ret2 x0 (Nat.le_refl _) push_last zB_size fun hp' e => ⟨?_, e⟩
    simp only [vB, vW]
    rw [e1, e2]
    rfl
  · have h1 : n ≤ 64 := by have := of_decide_eq_false h1; omega
    obtain ⟨e1, e2⟩ := ones_lo ⟨n, by omega⟩ h1
    refine ⟨by omega, _, rfl, _, pow_less h1, ?_⟩
    refine ret2 x0 (Nat.le_refl _) push_last zB_size fun hp' e => ⟨?_, e⟩
    simp only [vB, vW]
    rw [e1, e2]
    rfl

theorem tones_c (n : Nat) (hn : n ≤ 128) : CallsH Tryz.prog 173 #[vI n] h (RetX (vB (onesB n)) h) := by
  refine V173 _ h _ ?_
  rintro b0 h0 rfl rfl
  have x0 : Ext h (h.push (.cells zB 40)) := Ext.push _ _
  refine ⟨info40, fun h1 => ?_, fun h1 => ?_⟩
  · have h1 : 64 < n := by have := of_decide_eq_true h1; omega
    obtain ⟨e1, e2⟩ := ones_hi ⟨n, by omega⟩ h1
    refine ⟨((n - 64 : Nat) : Int), by rw [wrapI64] <;> omega, by omega, _, rfl, _, pow_less (by omega), ?_⟩
    refine ret2 x0 (Nat.le_refl _) push_last zB_size fun hp' e => ⟨?_, e⟩
    simp only [vB, vW]
    rw [e1, e2]
    rfl
  · have h1 : n ≤ 64 := by have := of_decide_eq_false h1; omega
    obtain ⟨e1, e2⟩ := ones_lo ⟨n, by omega⟩ h1
    refine ⟨by omega, _, rfl, _, pow_less h1, ?_⟩
    refine ret2 x0 (Nat.le_refl _) push_last zB_size fun hp' e => ⟨?_, e⟩
    simp only [vB, vW]
    rw [e1, e2]
    rfl

theorem isWidth_c (w : Nat) : CallsH Tryz.prog 18 #[vI w] h fun e h' => h' = h ∧ e = .returned (.bool (decide (1 ≤ w ∧ w ≤ 128))) := by
  refine V18 _ h _ ⟨decide (1 ≤ w ∧ w ≤ 128), ⟨fun h1 => ⟨rfl, ?_⟩, fun h1 => ⟨rfl, ?_⟩⟩, rfl, rfl⟩
  · have h1 := of_decide_eq_true h1
    exact decide_eq_decide.2 (by omega)
  · have h1 := of_decide_eq_false h1
    exact decide_eq_false (by omega)

theorem right_c (a : B128) (n : Nat) (hn : n ≤ 128) : CallsH Tryz.prog 48 #[vB a, vI n] h (RetX (vB (a >>> n)) h) := by
  refine V48 _ _ _ h _ ?_
  rintro b0 h0 rfl rfl b1 h1 rfl rfl
  have x0 : Ext h (h.push (.cells #[vW (hiW a), vW (loW a)] 40)) := Ext.push _ _
  have x1 := Ext.push (h.push (.cells #[vW (hiW a), vW (loW a)] 40)) (.cells zB 40)
  have c0 := x1.at (push_last (h := h) (o := .cells #[vW (hiW a), vW (loW a)] 40))
  refine ⟨info40, fun h1 => ?_, fun h1 => ?_⟩
  · have h1 : 64 ≤ n := by have := of_decide_eq_true h1; omega
    refine ⟨_, cellsAt_one (cellH_at c0), ((n - 64 : Nat) : Int), by rw [wrapI64] <;> omega, by omega, _, shr64 _ _ (by omega), ?_⟩
    refine ret2 (x0.trans x1) (by simp) push_last zB_size fun hp' e => ⟨?_, e⟩
    rw [← lo_shr_big _ h1, show (0 : Int) = ((hiW (a >>> n)).toNat : Int) from by rw [hi_shr_big _ h1]; rfl]
  · have h1 : n < 64 := by have := of_decide_eq_false h1; omega
    refine ⟨_, cellsAt_one (cellH_at c0), by omega, _, shr64 _ _ (by omega), _, cellsAt_one (cellH_at c0), by omega, _, shr64 _ _ (by omega), _, cellsAt_one (cellH_at c0), ((64 - n : Nat) : Int), by rw [wrapI64] <;> omega, by omega, _, shl64 _ _ (by omega), _, or64 _ _, ?_⟩
    refine ret2 (x0.trans x1) (by simp) push_last zB_size fun hp' e => ⟨?_, e⟩
    rw [← lo_shr_low _ h1, ← hi_shr_low]

theorem left_c (a : B128) (n : Nat) (hn : n ≤ 128) : CallsH Tryz.prog 19 #[vB a, vI n] h (RetX (vB (a <<< n)) h) := by
  refine V19 _ _ _ h _ ?_
  rintro b0 h0 rfl rfl b1 h1 rfl rfl
  have x0 : Ext h (h.push (.cells #[vW (hiW a), vW (loW a)] 40)) := Ext.push _ _
  have x1 := Ext.push (h.push (.cells #[vW (hiW a), vW (loW a)] 40)) (.cells zB 40)
  have c0 := x1.at (push_last (h := h) (o := .cells #[vW (hiW a), vW (loW a)] 40))
  refine ⟨info40, fun h1 => ?_, fun h1 => ?_⟩
  · have h1 : 64 ≤ n := by have := of_decide_eq_true h1; omega
    refine ⟨_, cellsAt_one (cellH_at c0), ((n - 64 : Nat) : Int), by rw [wrapI64] <;> omega, by omega, _, shl64 _ _ (by omega), ?_⟩
    refine ret2 (x0.trans x1) (by simp) push_last zB_size fun hp' e => ⟨?_, e⟩
    rw [← hi_shl_big _ h1, show (0 : Int) = ((loW (a <<< n)).toNat : Int) from by rw [lo_shl_big _ h1]; rfl]
  · have h1 : n < 64 := by have := of_decide_eq_false h1; omega
    refine ⟨_, cellsAt_one (cellH_at c0), by omega, _, shl64 _ _ (by omega), _, cellsAt_one (cellH_at c0), ((64 - n : Nat) : Int), by rw [wrapI64] <;> omega, by omega, _, shr64 _ _ (by omega), _, or64 _ _, _, cellsAt_one (cellH_at c0), by omega, _, shl64 _ _ (by omega), ?_⟩
    refine ret2 (x0.trans x1) (by simp) push_last zB_size fun hp' e => ⟨?_, e⟩
    rw [← hi_shl_low _ h1, ← lo_shl_low]

theorem vones_c (n : Nat) (hn : n ≤ 128) : CallsH Tryz.prog 20 #[vI n] h (RetX (vB (onesB n)) h) := by
  refine V20 _ h _ ?_
  rintro b0 h0 rfl rfl
  have x0 : Ext h (h.push (.cells zB 40)) := Ext.push _ _
  refine ⟨info40, ((128 - n : Nat) : Int), by rw [wrapI64] <;> omega, ?_⟩
  have e : #[Value.agg #[Value.int .u64 18446744073709551615, Value.int .u64 18446744073709551615], Value.int .i64 ((128 - n : Nat) : Int)] = #[vB (BitVec.allOnes 128), vI (128 - n)] := by
    simp only [vB, vW, all_hi, all_lo]; rfl
  rw [e]
  refine (right_c _ _ (by omega)).mono ?_
  rintro en h1 ⟨rfl, x1⟩
  refine ⟨_, _, rfl, ?_⟩
  exact ret2 (x0.trans x1) (Nat.le_refl _) (x1.at push_last) zB_size fun hp' e => ⟨rfl, e⟩

theorem mask_c (w n : Nat) (h1 : 1 ≤ w) (h2 : w ≤ 128) (hn : n ≤ w) : CallsH Tryz.prog 7 #[vI w, vI n] h (RetX (.tuple #[vB (msk w n), vZ 0]) h) := by
  refine V7 _ _ h _ ?_
  rintro b0 h0 rfl rfl
  have x0 : Ext h (h.push (.cells zB 40)) := Ext.push _ _
  refine ⟨info40, fun _ hp => hp = h.push (.cells zB 40), ?_, ?_⟩
  · refine (isWidth_c w).mono ?_
    rintro en h1' ⟨rfl, rfl⟩
    refine ⟨_, rfl, fun hf => ?_, fun _ => ⟨false, ⟨fun hf => ?_, fun _ => ⟨rfl, ?_⟩⟩, fun hf => (by cases hf), fun _ => rfl⟩⟩
    · rw [decide_eq_true (show 1 ≤ w ∧ w ≤ 128 from ⟨h1, h2⟩)] at hf; cases hf
    · have := of_decide_eq_true hf; omega
    · exact (decide_eq_false (by omega)).symm
  · rintro _ rfl
    refine (vones_c n (by omega)).mono ?_
    rintro en h3 ⟨rfl, x3⟩
    refine ⟨_, _, rfl, ((w - n : Nat) : Int), by rw [wrapI64] <;> omega, ?_⟩
    refine (left_c _ _ (by omega)).mono ?_
    rintro en h4 ⟨rfl, x4⟩
    refine ⟨_, _, rfl, ?_⟩
    refine ret2 ((x0.trans x3).trans x4) (Nat.le_refl _) ((x3.trans x4).at push_last) zB_size fun hp' e => ⟨?_, e⟩
    rw [mask_left ⟨w, by omega⟩ ⟨n, by omega⟩ hn]

theorem cut_c (a : B128) (w : Nat) (h1 : 1 ≤ w) (h2 : w ≤ 128) : CallsH Tryz.prog 9 #[vB a, vI w] h (RetX (vB (a &&& onesB w)) h) := by
  refine V9 _ _ _ h _ ?_
  rintro b0 h0 rfl rfl b1 h1' rfl rfl
  have x0 : Ext h (h.push (.cells #[vW (hiW a), vW (loW a)] 40)) := Ext.push _ _
  have x1 := Ext.push (h.push (.cells #[vW (hiW a), vW (loW a)] 40)) (.cells zB 40)
  have c0 := x1.at (push_last (h := h) (o := .cells #[vW (hiW a), vW (loW a)] 40))
  refine ⟨info40, (isWidth_c w).mono ?_⟩
  rintro en hh ⟨rfl, rfl⟩
  refine ⟨_, rfl, fun hf => ?_, fun _ => ?_⟩
  · rw [decide_eq_true (show 1 ≤ w ∧ w ≤ 128 from ⟨h1, h2⟩)] at hf; cases hf
  refine ⟨fun h' => Ext ((h.push (.cells #[vW (hiW a), vW (loW a)] 40)).push (.cells zB 40)) h', Ext.refl _, _, _, fun h' x => cellsAt_all (vs := bitsL a) (x.at c0), ?_⟩
  refine (vones_c w h2).mono ?_
  rintro en h3 ⟨rfl, x3⟩
  refine ⟨_, _, rfl, x3, (vand_c _ _).mono ?_⟩
  rintro en h4 ⟨rfl, x4⟩
  refine ⟨_, _, rfl, x3.trans x4, ?_⟩
  exact ret2 (((x0.trans x1).trans x3).trans x4) (by simp) ((x3.trans x4).at push_last) zB_size fun hp' e => ⟨rfl, e⟩

theorem top_c (w n : Nat) (h2 : w ≤ 128) (hn : n ≤ w) : CallsH Tryz.prog 115 #[vI w, vI n] h (RetX (vB (msk w n)) h) := by
  refine V115 _ _ h _ ?_
  rintro b0 h0 rfl rfl
  have x0 : Ext h (h.push (.cells zB 40)) := Ext.push _ _
  refine ⟨info40, (mones_c w h2).mono ?_⟩
  rintro en h3 ⟨rfl, x3⟩
  refine ⟨_, _, rfl, ((w - n : Nat) : Int), by rw [wrapI64] <;> omega, (mones_c (w - n) (by omega)).mono ?_⟩
  rintro en h4 ⟨rfl, x4⟩
  refine ⟨_, _, rfl, ?_⟩
  rintro b1 h5 rfl rfl
  refine ⟨info40, ?_⟩
  rintro b2 h6 rfl rfl
  have x6 : Ext h ((h4.push (.cells zB 40)).push (.cells zB 40)) := (((x0.trans x3).trans x4).trans (Ext.push _ _)).trans (Ext.push _ _)
  have s0 : h.size ≤ h4.size := ((x0.trans x3).trans x4).size
  have s1 : (h.push (.cells zB 40)).size ≤ h4.size := (x3.trans x4).size
  simp only [Array.size_push] at s1
  refine ⟨info40, stoT (n := 2) x6 s0 ((Ext.push _ _).at push_last) rfl zB_size (by simp [Value.oneCell']) fun h7 x7 z7 c7 k7 => ?_⟩
  have c7b : h7[(h4.push (.cells zB 40)).size]? = some (.cells zB 40) := (k7 _ (by simp)).trans push_last
  refine stoT (n := 2) x7 (by simp; omega) c7b rfl zB_size (by simp [Value.oneCell']) fun h8 x8 z8 c8 k8 => ?_
  have c8a := (k8 h4.size (by simp)).trans c7
  have c8r : h8[h.size]? = some (.cells zB 40) := by
    rw [k8 _ (by simp; omega), k7 _ (by omega)]
    exact (((x3.trans x4).trans (Ext.push _ _)).trans (Ext.push _ _)).at push_last
  refine ⟨_, cellsAt_one (cellH_at c8a), _, cellsAt_one (cellH_at c8), _, clr64 _ _, _, cellsAt_one (cellH_at c8a), _, cellsAt_one (cellH_at c8), _, clr64 _ _, ?_⟩
  refine ret2 x8 (Nat.le_refl _) c8r zB_size fun hp' e => ⟨?_, e⟩
  rw [← hi_not, ← lo_not, ← hi_and, ← lo_and]
  rfl

end
end Go.Vc
