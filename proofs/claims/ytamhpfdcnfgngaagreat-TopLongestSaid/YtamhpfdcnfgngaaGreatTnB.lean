import Derived.Test.YtamhpfdcnfgngaaGreatTmZ
import Derived.LaidEql
set_option maxRecDepth 10000
/- TopLongest: Delete and DeleteFunc, walked. -/
namespace Go.Vc
open Go Go.Proofs Go.MapKept

theorem cutP_0 {b c z : Nat} : cutP (some ⟨b, 0, none⟩) c 0 z = some ⟨b, 0, none⟩ := by
  unfold cutP; split
  · rfl
  · simp [addr_add]
theorem cutP_at {b c l z : Nat} (h : c ≠ l) : cutP (some ⟨b, 0, none⟩) c l z = some ⟨b, l * z, none⟩ := by
  unfold cutP; rw [if_neg h]; simp [addr_add]

section
variable {P : Program} {t e : TypeId} {h : Hp}

theorem semH_clear1 (ht : P.underlying t = some (.slice e)) {z : Value} (hz : (P.info? e).bind (·.zero) = some z) {L : List Value} (hL : (Builtin.zeroCells z.cells 1).toList = L) {b o c : Nat} (hw : wrAt h b o L.length) (h1 : ∀ v ∈ L, v.oneCell' = true) {ty : TypeId} {R : Value → Hp → Prop}
    (hR : ∀ h', h' = setsH h b o L → R (.tuple #[]) h') : SemH P (Builtin.clear_ #[t] ty #[.slice (some ⟨b, o, none⟩) 1 c]) h R := by
  obtain ⟨i, hi, hz⟩ := Option.bind_eq_some_iff.1 hz
  intro w hw'
  subst hw'
  obtain ⟨w', hrun, hrest, hheap⟩ := run_stores (P := P) b L o 0 w (by rw [Nat.add_zero]; exact hw) h1
  refine ⟨.tuple #[], w', ?_, hrest, hR _ (by rw [hheap, Nat.add_zero])⟩
  simp [Builtin.clear_, run_underlying ht, zeroValue, typeInfo, hi, hz, hL, hrun]

theorem semH_sliceOk (ht : P.underlying t = some (.slice e)) {i : TypeInfo} (hi : P.info? e = some i) {b c : Nat} (hc : 1 ≤ c) {R : Value → Hp → Prop} (hR : R (.slice (some ⟨b, 0, none⟩) 1 1) h) :
    SemH P (Instr.sliceAt t (.slice (some ⟨b, 0, none⟩) 1 c) (some (.int .i64 0)) (some (.int .i64 1)) (some (.int .i64 ((1 : Nat) : Int)))) h R := by
  intro w hw
  subst hw
  refine ⟨.slice (some ⟨b, 0, none⟩) 1 1, w, ?_, Rest.refl w, hR⟩
  have h1 : (1 : Int) ≤ (c : Int) := by omega
  simp [Instr.sliceAt, Instr.slice, Instr.sliceBounds, Instr.sliceBound, run_underlying ht, sizeOf, typeInfo, hi, asIntOf, h1, addr_add]
end

section
variable {h : Hp}

theorem del_c {b c : Nat} {vs : List Value} (o : Own h 0 53 4 (sl b 1 c) 1 vs) : CallsH Tryz.prog 158 #[sl b 1 c, vI 0, vI 1] h fun e h' => e = .returned (sl b 0 c) ∧ h'.size = h.size ∧ ∀ q, q ≠ b → h'[q]? = h[q]? := by
  obtain ⟨cur, hb, hc, hcs⟩ : ∃ cur, h[b]? = some (.cells cur 53) ∧ 1 ≤ c ∧ cur.size = c * 4 := by
    rcases o.2 with ⟨h1, _⟩ | ⟨g, cap, cur, hv, _, hg, hnc, _, hcs, _⟩
    · cases h1
    · cases hv; exact ⟨cur, hg, hnc, hcs⟩
  obtain ⟨i, hi⟩ : ∃ i, Tryz.prog.info? 53 = some i := let ⟨i, z, h1, _⟩ := info53; ⟨i, h1⟩
  refine V158 _ _ _ _ _ h _ ?_
  refine semH_sliceOk row176.ht hi hc ⟨_, _, _, rfl, fun hf => absurd hf (by decide), fun _ => ⟨0, rfl, Nat.le_refl _, Nat.zero_le _, _, rfl, 1, rfl, Nat.le_refl _, hc, _, rfl, ?_⟩⟩
  refine semH_append_none row176 (Nat.zero_le _) ⟨_, _, _, rfl, 0, rfl, 1, rfl, Nat.zero_le _, by omega, _, rfl, ?_⟩
  rw [show c - 0 = c by omega, cutP_0, cutP_0]
  refine semH_clear1 row176.ht (z := zEnt) (by kernel_rfl) (L := [nilS, vI 0, .string ⟨#[]⟩, nilS]) (by kernel_rfl) (wrAt_of hb (by simp only [List.length_cons, List.length_nil]; omega) (.inl (Nat.zero_le _))) (by simp [Value.oneCell']) fun h' hh => ?_
  exact ⟨rfl, rfl, by rw [hh]; exact setsH_size, fun q hq => by rw [hh]; exact setsH_ne hq⟩
end
end Go.Vc

/- TopLongest: DeleteFunc, walked. -/
namespace Go.Vc
open Go Go.Proofs Go.MapKept

theorem eqh_ptr {P : Program} {t e : TypeId} {i : TypeInfo} (ht : P.underlying t = some (.pointer e)) (hi : P.info? e = some i) (hs : i.size ≠ 0) {h : Hp} {a b : Nat} {ta tb : TypeId} (ha : Tag h a ta) (hb : Tag h b tb) :
    EqH P h t (vP a) (vP b) (decide (a = b)) := by
  intro w hw
  subst hw
  obtain ⟨ca, ha⟩ := ha
  obtain ⟨cb, hb⟩ := hb
  obtain ⟨d, hd⟩ : ∃ d, Op.maxDepth = d + 1 := ⟨Op.maxDepth - 1, by decide⟩
  unfold Op.equal
  rw [hd, Op.equalIn]
  by_cases hab : a = b
  · subst hab
    simp [run_underlying ht, sizeOf, typeInfo, hi, hs, run_sameAddr_same]
  · have hne : (⟨a, 0, none⟩ : Addr) ≠ ⟨b, 0, none⟩ := fun e => hab (by injection e)
    simp [run_underlying ht, sizeOf, typeInfo, hi, hs, run_sameAddr_other w hne ha hb, hab]

theorem Own.shrink {h : Hp} {base : Nat} {e : TypeId} {b n c m : Nat} {xs : List Value} (o : Own h base e 1 (sl b n c) n xs) (hm : m ≤ n) : Own h base e 1 (sl b m c) m (xs.take m) := by
  have hl := o.1
  refine ⟨by rw [List.length_take]; omega, ?_⟩
  rcases o.2 with ⟨h1, _⟩ | ⟨g, cap, cur, hv, hb, hg, hnc, hcm, hcs, ht⟩
  · cases h1
  · cases hv
    refine .inr ⟨b, c, cur, rfl, hb, hg, by omega, hcm, hcs, ?_⟩
    rw [← ht, List.take_take]
    congr 1; omega

section
variable {h : Hp}

theorem is_c {vb a g : Nat} (hv : cellsAt h vb 0 [vP g]) (ha : Tag h a 246) (hg : Tag h g 246) : CallsH Tryz.prog 160 #[vP a, vP vb] h fun e h' => h' = h ∧ e = .returned (.bool (decide (a = g))) := by
  have hs : ∃ i, Tryz.prog.info? 246 = some i ∧ i.size ≠ 0 := by
    have h1 : (Tryz.prog.info? 246).map (·.size) = some 4 := by kernel_rfl
    obtain ⟨i, h1, h2⟩ := Option.map_eq_some_iff.1 h1
    exact ⟨i, h1, by omega⟩
  obtain ⟨i, hi, hs⟩ := hs
  exact V160 _ _ h _ ⟨vb, 0, rfl, _, hv, rfl, _, eqh_ptr (by kernel_rfl) hi hs ha hg, rfl, rfl⟩

variable {gb gc n : Nat} {gs : List Gp}

theorem own_at {l : List Gp} (o : Own h 0 239 1 (sl gb n gc) n (l.map fun g => vP g.bg)) {j : Nat} (hj : j < n) : cellsAt h gb (0 + Int.toNat (j : Int) * 1) [vP (ga l j).bg] := by
  have hl : l.length = n := by have := o.1; simpa using this
  have := cellsAt_iff.1 o.cellsA j (by simpa [hl] using hj)
  refine cellsAt_one ?_
  rw [Int.toNat_natCast, Nat.mul_one, this, List.getElem_map, ga_eq (by omega)]

theorem idx_c (o : Own h 0 239 1 (sl gb n gc) n (gs.map fun g => vP g.bg)) (ht : ∀ g ∈ gs, Tag h g.bg 246) (nd : (gs.map (·.bg)).Nodup) {i vb : Nat} {g : Gp} (hi : gs[i]? = some g) (hv : cellsAt h vb 0 [vP g.bg]) :
    CallsH Tryz.prog 171 #[sl gb n gc, .func (.func 160) #[] #[vP vb]] h fun e h' => h' = h ∧ e = .returned (vI i) := by
  have hl : gs.length = n := by have := o.1; simpa using this
  have hin : i < n := by have := (List.getElem?_eq_some_iff.1 hi).1; omega
  have hn := o.max
  refine V171 _ _ _ _ h _ ⟨fun vs q => ∃ j, vs = [vI j] ∧ j ≤ i ∧ q = h, fun vs _ => n - (numAt vs 0).toNat, ⟨0, rfl, Nat.zero_le _, rfl⟩, ?_⟩
  rintro y q ⟨j, hv2, hj, rfl⟩
  cases hv2
  refine ⟨fun _ => ?_, fun hge => by have := of_decide_eq_false hge; omega⟩
  have hjm : gs[j]? = some (ga gs j) := ga_at (by omega)
  refine ⟨gb, 0, rfl, by omega, by omega, _, own_at o (by omega), 160, #[], #[vP vb], rfl, by kernel_rfl, (is_c hv (ht _ (List.mem_of_getElem? hjm)) (ht g (List.mem_of_getElem? hi))).mono ?_⟩
  rintro en q2 ⟨rfl, rfl⟩
  refine ⟨_, rfl, fun he => ?_, fun he => ⟨((j + 1 : Nat) : Int), incI (by omega), ⟨j + 1, rfl, ?_, rfl⟩, by simp only [numAt]; omega⟩⟩
  · have := nodup_at nd hjm hi (of_decide_eq_true he)
    subst this
    exact ⟨rfl, rfl⟩
  · rcases Nat.lt_or_eq_of_le hj with h1 | h1
    · exact h1
    · subst h1
      rw [hi] at hjm
      have := Option.some.inj hjm
      rw [← this] at he
      simp at he

theorem delG_c (o : Own h 0 239 1 (sl gb n gc) n (gs.map fun g => vP g.bg)) (ht : ∀ g ∈ gs, Tag h g.bg 246) (nd : (gs.map (·.bg)).Nodup) {i vb : Nat} {g : Gp} (hi : gs[i]? = some g) (hv : cellsAt h vb 0 [vP g.bg]) (hvb : vb ≠ gb) :
    CallsH Tryz.prog 159 #[sl gb n gc, .func (.func 160) #[] #[vP vb]] h fun e h' => e = .returned (sl gb (n - 1) gc) ∧ Own h' 0 239 1 (sl gb (n - 1) gc) (n - 1) ((gs.eraseIdx i).map fun g => vP g.bg) ∧
      (∃ p, cellH h' ⟨gb, 0, none⟩ = some (.pointer p)) ∧ h'.size = h.size ∧ ∀ q, q ≠ gb → h'[q]? = h[q]? := by
  have hl : gs.length = n := by have := o.1; simpa using this
  have hin : i < n := by have := (List.getElem?_eq_some_iff.1 hi).1; omega
  have hn := o.max
  have hgt : Tag h gb 239 := o.blk rfl
  refine V159 _ _ _ _ h _ ((idx_c o ht nd hi hv).mono ?_)
  rintro en q0 ⟨rfl, rfl⟩
  refine ⟨_, rfl, fun hf => by have := of_decide_eq_true hf; omega, fun _ => ⟨((i + 1 : Nat) : Int), incI (by omega), ?_⟩⟩
  refine ⟨fun vs q => ∃ j l, vs = [vI (j - 1), vI j] ∧ i < j ∧ j ≤ n ∧ Own q 0 239 1 (sl gb n gc) n (l.map fun g => vP g.bg) ∧ q.size = q0.size ∧ (∀ b, b ≠ gb → q[b]? = q0[b]?) ∧ ∀ x, ga l x = if i ≤ x ∧ x + 1 < j then ga gs (x + 1) else ga gs x,
    fun vs _ => n - (numAt vs 1).toNat, ⟨i + 1, gs, rfl, by omega, by omega, o, rfl, fun _ _ => rfl, fun x => by rw [if_neg (by omega)]⟩, ?_⟩
  rintro y z q ⟨j, l, hvs, hij, hjn, ol, zq, kq, el⟩
  cases hvs
  have hll : l.length = n := by have := ol.1; simpa using this
  refine ⟨fun hlt => ?_, fun hge => ?_⟩
  · have hlt : j < n := by have := of_decide_eq_true hlt; omega
    have ej : ga l j = ga gs j := by rw [el, if_neg (by omega)]
    have hjm : gs[j]? = some (ga gs j) := ga_at (by omega)
    have tq : ∀ a, Tag q0 a 246 → Tag q a 246 := fun a ⟨cs, h1⟩ => ⟨cs, (kq a ((show Tag q0 a 246 from ⟨cs, h1⟩).ne hgt (by decide))).trans h1⟩
    refine ⟨gb, 0, rfl, by omega, by omega, _, own_at ol hlt, 160, #[], #[vP vb], rfl, by kernel_rfl, ?_⟩
    refine (is_c (cells_off kq hv hvb) (by rw [ej]; exact tq _ (ht _ (List.mem_of_getElem? hjm))) (tq _ (ht g (List.mem_of_getElem? hi)))).mono ?_
    rintro en q2 ⟨rfl, rfl⟩
    have hne : (ga l j).bg ≠ g.bg := by rw [ej]; intro e; have := nodup_at nd hjm hi e; omega
    refine ⟨_, rfl, fun _ => ?_, fun hf => by rw [decide_eq_false hne] at hf; cases hf⟩
    refine ol.store (i := j - 1) (by omega) rfl fun q3 o3 g3 z3 => ?_
    refine ⟨((j : Nat) : Int), ?_, ((j + 1 : Nat) : Int), incI (by omega), ⟨j + 1, l.set (j - 1) (ga l j), ?_, by omega, by omega, ?_, by omega, fun b hb => ?_, fun x => ?_⟩, by simp only [numAt]; omega⟩
    · have := incI (i := j - 1) (by omega); rw [show j - 1 + 1 = j by omega] at this; exact this
    · rw [show j + 1 - 1 = j by omega]
    · rw [List.map_set]; exact o3
    · by_cases hlt2 : b < q2.size
      · rw [g3.block b hlt2 (by intro e; cases e; exact hb rfl), kq b hb]
      · rw [Array.getElem?_eq_none (by omega), Array.getElem?_eq_none (by omega)]
    · rw [ga_set (by omega)]
      by_cases hx : x = j - 1
      · rw [if_pos hx, if_pos (by omega), ej]; congr 1; omega
      · rw [if_neg hx, el]
        by_cases hx2 : i ≤ x ∧ x + 1 < j
        · rw [if_pos hx2, if_pos (by omega)]
        · rw [if_neg hx2, if_neg (by omega)]
  · have hjn' : j = n := by have := of_decide_eq_false hge; omega
    subst hjn'
    obtain ⟨cur, hb, hc, hcs⟩ : ∃ cur, q[gb]? = some (.cells cur 239) ∧ j ≤ gc ∧ cur.size = gc * 1 := by
      rcases ol.2 with ⟨h1, _⟩ | ⟨g, cap, cur, hv, _, hg, hnc, _, hcs, _⟩
      · cases h1
      · cases hv; exact ⟨cur, hg, hnc, hcs⟩
    refine ⟨j - 1, rfl, by omega, hc, _, rfl, ?_⟩
    rw [cutP_at (by omega), show j - (j - 1) = 1 by omega]
    refine semH_clear1 row142.ht (z := .pointer none) (by kernel_rfl) (L := [.pointer none]) (by kernel_rfl) (wrAt_of hb (by simp only [List.length_cons, List.length_nil]; omega) (.inl (Nat.zero_le _))) (by simp [Value.oneCell']) fun h' hh => ⟨rfl, j - 1, rfl, Nat.zero_le _, by omega, _, rfl, ?_⟩
    rw [cutP_0, Nat.sub_zero, Nat.sub_zero]
    obtain ⟨b1, q1, e1, _, _, _, _, hk⟩ := ol.store (i := j - 1) (by omega) (v := .pointer none) rfl (K := fun h' => Own h' 0 239 1 (sl gb j gc) j ((l.map fun g => vP g.bg).set (j - 1) (.pointer none))) fun _ o1 _ _ => o1
    cases e1
    have o' := hk h' (by rw [hh]; congr 1; rw [Int.toNat_natCast]; omega)
    refine ⟨rfl, ?_, ?_, ?_, ?_⟩
    · have o2 := o'.shrink (m := j - 1) (by omega)
      have e : ((l.map fun g => vP g.bg).set (j - 1) (.pointer none)).take (j - 1) = (gs.eraseIdx i).map fun g => vP g.bg := by
        apply List.ext_getElem?
        intro x
        rw [List.getElem?_take, List.getElem?_map, List.getElem?_eraseIdx]
        by_cases hx : x < j - 1
        · rw [if_pos hx, List.getElem?_set, if_neg (by omega), List.getElem?_map, ga_at (by omega), el]
          by_cases hxi : x < i
          · rw [if_neg (by omega), if_pos hxi, ga_at (by omega)]
          · rw [if_pos (by omega), if_neg hxi, ga_at (by omega)]
        · rw [if_neg hx, if_neg (by omega), List.getElem?_eq_none (by omega)]; rfl
      rw [e] at o2
      exact o2
    · have hc := o'.cellsA
      have hlen : ((l.map fun g => vP g.bg).set (j - 1) (.pointer none)).length = j := by simp [hll]
      have h0 := cellsAt_iff.1 hc 0 (by omega)
      rw [Nat.zero_add] at h0
      have hp : ∃ p, ((l.map fun g => vP g.bg).set (j - 1) (.pointer none))[0]'(by omega) = .pointer p := by
        rw [List.getElem_set]
        split
        · exact ⟨_, rfl⟩
        · rw [List.getElem_map]; exact ⟨_, rfl⟩
      obtain ⟨p, hp⟩ := hp
      exact ⟨p, h0.trans (by rw [hp])⟩
    · rw [hh, setsH_size]; exact zq
    · intro b hb'; rw [hh, setsH_ne hb']; exact kq b hb'
end
end Go.Vc

