/- TopLongest: a copy of the schema. -/
import Derived.Test.YtamhpfdcnfgngaaGreatTmG
set_option maxRecDepth 10000
namespace Go.Vc
open Go Go.Proofs Go.MapKept

theorem own_ne {h : Hp} {base base' : Nat} {e e' : TypeId} {z z' b b' n n' c c' m m' : Nat} {xs ys : List Value} (o : Own h base e z (sl b n c) m xs) (o' : Own h base' e' z' (sl b' n' c') m' ys) (hne : e ≠ e') : b ≠ b' := by
  rintro rfl
  obtain ⟨cur, h1⟩ := o.blk rfl
  obtain ⟨cur', h2⟩ := o'.blk rfl
  rw [h1] at h2
  cases h2
  exact hne rfl
theorem Own.keep1 {h h' : Hp} {base : Nat} {e : TypeId} {z b n c m : Nat} {xs : List Value} (o : Own h base e z (sl b n c) m xs) (k : h'[b]? = h[b]?) : Own h' base e z (sl b n c) m xs :=
  o.keep fun q hq => by obtain rfl : b = q := Option.some.inj hq; exact k
theorem Own.re1 {h : Hp} {base base' : Nat} {e : TypeId} {z b n c m : Nat} {xs : List Value} (o : Own h base e z (sl b n c) m xs) (k : base' ≤ b) : Own h base' e z (sl b n c) m xs :=
  o.rebase fun q hq => by obtain rfl : b = q := Option.some.inj hq; exact k
theorem Own.le1 {h : Hp} {base : Nat} {e : TypeId} {z b n c m : Nat} {xs : List Value} (o : Own h base e z (sl b n c) m xs) : base ≤ b ∧ b < h.size := o.lt rfl

section
variable {h : Hp} {w : Nat} {s : SB}

theorem action0_c {bp cp : Nat} (hp : cellsAt h bp 0 [.string sPort, vI 64]) (n : ByteArray) : CallsH Tryz.prog 40 #[.agg #[.string n, sl bp 1 cp, nilS]] h fun e h' => ∃ b' c', h.size ≤ b' ∧ Ext h h' ∧ Own h' h.size 89 2 (sl b' 1 c') 1 [.string sPort, vI 64] ∧ e = .returned (.agg #[.string n, sl b' 1 c', nilS]) := by
  refine V40 _ _ _ _ _ _ _ h _ ?_
  rintro b0 h0 rfl rfl b1 h1 hb1 hh1
  have x1 : Ext h h1 := by rw [hh1]; exact (Ext.push _ _).box _
  have c0 : h1[h.size]? = some (.cells #[.string n, sl bp 1 cp, nilS] 92) := by rw [hh1]; exact (Ext.push _ _).at push_last
  have c1 : h1[b1]? = some (.cells zA 92) := by rw [hh1, hb1]; exact push_last
  have n1 : b1 = h.size + 1 := by rw [hb1]; simp
  have z1 : h1.size = h.size + 2 := by rw [hh1]; simp
  clear hh1 hb1
  refine ⟨info92, _, _, _, cellsAt_one (cellH_at c0), (cln36_c (x1.cells hp) rfl (by decide) (by decide) (by simp [Value.oneCell'])).mono ?_⟩
  rintro en h2 ⟨b', c', g1, x2, o2, rfl⟩
  have c2 := x2.at c0
  refine ⟨_, _, _, rfl, rfl, wrAt_of c2 (by simp) (.inl (Nat.zero_le _)), ?_⟩
  intro h3 hh3
  have k3 : ∀ q, q ≠ h.size → h3[q]? = h2[q]? := fun q hq => by rw [hh3]; exact setsH_ne hq
  have c3 : h3[h.size]? = some (.cells #[.string n, sl b' 1 c', nilS] 92) := by rw [hh3]; exact setsH_at c2
  have x3 : Ext h h3 := by rw [hh3]; exact (x1.trans x2).sets (Nat.le_refl _) _
  have z2 := x2.size
  clear hh3
  refine ⟨_, _, _, cellsAt_one (cellH_at c3), cln66_nil.mono ?_⟩
  rintro en h4 ⟨rfl, rfl⟩
  refine ⟨_, _, _, rfl, rfl, wrAt_of c3 (by simp) (.inl (Nat.zero_le _)), ?_⟩
  intro h5 hh5
  have k5 : ∀ q, q ≠ h.size → h5[q]? = h4[q]? := fun q hq => by rw [hh5]; exact setsH_ne hq
  have c5 : h5[h.size]? = some (.cells #[.string n, sl b' 1 c', nilS] 92) := by rw [hh5]; exact setsH_at c3
  have x5 : Ext h h5 := by rw [hh5]; exact x3.sets (Nat.le_refl _) _
  clear hh5
  refine ⟨_, _, _, _, _, _, _, cellsAt_all c5, stoT (n := 3) x5 (by omega) (z := zA) (t := 92) ?_ rfl zA_size (by simp [Value.oneCell']) fun h6 x6 z6 c6 k6 => ⟨_, _, _, _, _, _, _, cellsAt_all c6, b', c', by omega, x6, ?_, rfl⟩⟩
  · rw [k5 _ (by omega), k3 _ (by omega)]; exact x2.at c1
  · exact (o2.keep1 ((k6 _ (by omega)).trans ((k5 _ (by omega)).trans (k3 _ (by omega))))).re1 (by omega)

theorem action1_c (n : ByteArray) : CallsH Tryz.prog 40 #[.agg #[.string n, nilS, nilS]] h (RetX (.agg #[.string n, nilS, nilS]) h) := by
  refine V40 _ _ _ _ _ _ _ h _ ?_
  rintro b0 h0 rfl rfl b1 h1 hb1 hh1
  have x1 : Ext h h1 := by rw [hh1]; exact (Ext.push _ _).box _
  have c0 : h1[h.size]? = some (.cells #[.string n, nilS, nilS] 92) := by rw [hh1]; exact (Ext.push _ _).at push_last
  have c1 : h1[b1]? = some (.cells zA 92) := by rw [hh1, hb1]; exact push_last
  have n1 : b1 = h.size + 1 := by rw [hb1]; simp
  clear hh1 hb1
  refine ⟨info92, _, _, _, cellsAt_one (cellH_at c0), cln36_nil.mono ?_⟩
  rintro en h2 ⟨rfl, rfl⟩
  refine ⟨_, _, _, rfl, rfl, wrAt_of c0 (by simp) (.inl (Nat.zero_le _)), ?_⟩
  intro h3 hh3
  have k3 : ∀ q, q ≠ h.size → h3[q]? = h2[q]? := fun q hq => by rw [hh3]; exact setsH_ne hq
  have c3 : h3[h.size]? = some (.cells #[.string n, nilS, nilS] 92) := by rw [hh3]; exact setsH_at c0
  have x3 : Ext h h3 := by rw [hh3]; exact x1.sets (Nat.le_refl _) _
  clear hh3
  refine ⟨_, _, _, cellsAt_one (cellH_at c3), cln66_nil.mono ?_⟩
  rintro en h4 ⟨rfl, rfl⟩
  refine ⟨_, _, _, rfl, rfl, wrAt_of c3 (by simp) (.inl (Nat.zero_le _)), ?_⟩
  intro h5 hh5
  have k5 : ∀ q, q ≠ h.size → h5[q]? = h4[q]? := fun q hq => by rw [hh5]; exact setsH_ne hq
  have c5 : h5[h.size]? = some (.cells #[.string n, nilS, nilS] 92) := by rw [hh5]; exact setsH_at c3
  have x5 : Ext h h5 := by rw [hh5]; exact x3.sets (Nat.le_refl _) _
  clear hh5
  refine ⟨_, _, _, _, _, _, _, cellsAt_all c5, stoT (n := 3) x5 (by omega) (z := zA) (t := 92) ?_ rfl zA_size (by simp [Value.oneCell']) fun h6 x6 z6 c6 k6 => ⟨_, _, _, _, _, _, _, cellsAt_all c6, rfl, x6⟩⟩
  rw [k5 _ (by omega), k3 _ (by omega)]; exact c1

theorem stages_c : CallsH Tryz.prog 43 #[nilS] h fun e h' => h' = h ∧ e = .returned nilS := by
  refine V43 _ _ _ h _ (cln69_nil.mono ?_)
  rintro en h1 ⟨rfl, rfl⟩
  refine ⟨_, _, _, rfl, cntI 0 fun _ hp => hp = h1, cntM 0, cnt_0 rfl, ?_⟩
  rintro x hp1 ⟨i, hi, hx, rfl⟩
  cases hx
  exact ⟨fun hlt => absurd (cnt_lt hlt) (by omega), fun _ => ⟨rfl, rfl⟩⟩

theorem info36 : ∃ i z, Tryz.prog.info? 36 = some i ∧ i.zero = some z := by
  have h : (Tryz.prog.info? 36).bind (·.zero) = some (.agg #[nilS, nilS, nilS, nilS, nilS, nilS]) := by kernel_rfl
  obtain ⟨i, h1, h2⟩ := Option.bind_eq_some_iff.1 h
  exact ⟨i, _, h1, h2⟩
noncomputable abbrev zS : Array Value := zeros Tryz.prog 36
theorem zS_size : zS.size = 6 := by kernel_rfl

structure Cp (h hp : Hp) (x1 x3 x4 : Value) : Prop where
  x : Ext h hp
  box : hp[h.size]? = some (.cells #[nilS, x1, nilS, x3, x4, nilS] 36)
  res : hp[h.size + 1]? = some (.cells zS 36)

theorem Cp.ext {h hp hq : Hp} {x1 x3 x4 : Value} (c : Cp h hp x1 x3 x4) (x : Ext hp hq) : Cp h hq x1 x3 x4 := ⟨c.x.trans x, x.at c.box, x.at c.res⟩
theorem Cp.keep {h hp hq : Hp} {x1 x3 x4 : Value} (c : Cp h hp x1 x3 x4) (hs : hp.size ≤ hq.size) {b : Nat} (hb : h.size + 2 ≤ b) (k : ∀ q, q < hp.size → q ≠ b → hq[q]? = hp[q]?) : Cp h hq x1 x3 x4 :=
  ⟨⟨Nat.le_trans c.x.size hs, fun i hi => (k i (Nat.lt_of_lt_of_le hi c.x.size) (by omega)).trans (c.x.old i hi)⟩, (k _ (Array.getElem?_eq_some_iff.1 c.box).1 (by omega)).trans c.box, (k _ (Array.getElem?_eq_some_iff.1 c.res).1 (by omega)).trans c.res⟩

theorem layC_list {xs vs : List Value} {o : Nat} (hl : o + vs.length ≤ xs.length) : (layC xs.toArray o vs).toList = xs.take o ++ vs ++ xs.drop (o + vs.length) := by
  have hsz : (layC xs.toArray o vs).size = xs.length := by rw [layC_size]; simp
  apply List.ext_getElem?
  intro j
  rw [Array.getElem?_toList]
  by_cases hj : j < xs.length
  · rw [layC_get (by simpa using hj)]
    by_cases h1 : o ≤ j ∧ j < o + vs.length
    · rw [if_pos h1, List.append_assoc, List.getElem?_append_right (by rw [List.length_take]; omega), List.getElem?_append_left (by rw [List.length_take]; omega), List.length_take, Nat.min_eq_left (by omega)]
    · rw [if_neg h1]
      by_cases h2 : j < o
      · rw [List.append_assoc, List.getElem?_append_left (by rw [List.length_take]; omega), List.getElem?_take_of_lt h2]; simp
      · rw [List.getElem?_append_right (by simp; omega), List.getElem?_drop]
        simp
        congr 1
        omega
  · rw [Array.getElem?_eq_none (by omega), List.getElem?_eq_none (by simp; omega)]

abbrev tabR (bk ck bn cn : Bool → Nat) (k : Bool) : List Value := [.string (nm k), sl (bk k) 1 (ck k), sl (bn k) 2 (cn k), vI 200, .string sNone, nilS, .bool false]

def put2 (f : Bool → Nat) (k : Bool) (x : Nat) : Bool → Nat := fun q => if q = k then x else f q
theorem put2_at (f : Bool → Nat) (k : Bool) (x : Nat) : put2 f k x k = x := by simp [put2]
theorem put2_ne (f : Bool → Nat) {k q : Bool} (x : Nat) (h : q ≠ k) : put2 f k x q = f q := by simp [put2, h]

theorem copy_c (S : Sch h w s) : CallsH Tryz.prog 14 #[s.val] h fun e h' => ∃ s', Ext h h' ∧ Sch h' w s' ∧ e = .returned s'.val := by
  refine V14 _ _ _ _ _ _ _ _ _ _ _ _ _ _ _ _ _ _ h _ ?_
  rintro b0 h0 rfl rfl b1 h1 hb1 hh1
  have n1 : b1 = h.size + 1 := by rw [hb1]; simp
  have C1 : Cp h h1 (sl s.bm 1 s.cm) (sl s.ba 2 s.ca) (sl s.bt 2 s.ct) := by
    refine ⟨by rw [hh1]; exact (Ext.push _ _).box _, by rw [hh1]; exact (Ext.push _ _).at push_last, ?_⟩
    rw [hh1, ← n1, hb1]; exact push_last
  have z1 : h1.size = h.size + 2 := by rw [hh1]; simp
  clear hh1 hb1
  subst n1
  refine ⟨info36, _, _, _, cellsAt_one (cellH_at C1.box), cln35_nil.mono ?_⟩
  rintro en h2 ⟨rfl, rfl⟩
  refine ⟨_, _, _, rfl, rfl, wrAt_of C1.box (by simp) (.inl (Nat.zero_le _)), ?_⟩
  intro h3 hh3
  have C3 : Cp h h3 (sl s.bm 1 s.cm) (sl s.ba 2 s.ca) (sl s.bt 2 s.ct) :=
    ⟨by rw [hh3]; exact C1.x.sets (Nat.le_refl _) _, by rw [hh3]; exact setsH_at C1.box, by rw [hh3]; exact (setsH_ne (by omega)).trans C1.res⟩
  have z3 : h3.size = h2.size := by rw [hh3]; exact setsH_size
  clear hh3
  refine ⟨_, _, _, cellsAt_one (cellH_at C3.box), cntI 0 fun _ hp => hp = h3, cntM 0, cnt_0 rfl, ?_⟩
  rintro x hp1 ⟨i, hi, hx, rfl⟩
  cases hx
  refine ⟨fun hlt => absurd (cnt_lt hlt) (by omega), fun _ => ?_⟩
  refine ⟨_, _, _, cellsAt_one (cellH_at C3.box), (cln36_c (C3.x.cells S.m) rfl (by decide) (by decide) (by simp [Value.oneCell'])).mono ?_⟩
  rintro en h5 ⟨bm, cm, gm, x5, om, rfl⟩
  have C5 := C3.ext x5
  refine ⟨_, _, _, rfl, rfl, wrAt_of C5.box (by simp) (.inl (Nat.zero_le _)), ?_⟩
  intro h6 hh6
  have k6 : ∀ q, q ≠ h.size → h6[q]? = h5[q]? := fun q hq => by rw [hh6]; exact setsH_ne hq
  have C6 : Cp h h6 (sl bm 1 cm) (sl s.ba 2 s.ca) (sl s.bt 2 s.ct) :=
    ⟨by rw [hh6]; exact C5.x.sets (Nat.le_refl _) _, by rw [hh6]; exact setsH_at C5.box, (k6 _ (by omega)).trans C5.res⟩
  have om6 : Own h6 (h.size + 2) 89 2 (sl bm 1 cm) 1 [.string sTo, vI w] := (om.keep1 (k6 _ (by omega))).re1 (by omega)
  clear hh6
  refine ⟨_, _, _, cellsAt_one (cellH_at C6.box), cln37_nil.mono ?_⟩
  rintro en h7 ⟨rfl, rfl⟩
  refine ⟨_, _, _, rfl, rfl, wrAt_of C6.box (by simp) (.inl (Nat.zero_le _)), ?_⟩
  intro h8 hh8
  have k8 : ∀ q, q ≠ h.size → h8[q]? = h7[q]? := fun q hq => by rw [hh8]; exact setsH_ne hq
  have C8 : Cp h h8 (sl bm 1 cm) (sl s.ba 2 s.ca) (sl s.bt 2 s.ct) :=
    ⟨by rw [hh8]; exact C6.x.sets (Nat.le_refl _) _, by rw [hh8]; exact setsH_at C6.box, (k8 _ (by omega)).trans C6.res⟩
  have om8 := om6.keep1 (k8 _ (by have := om6.le1; omega))
  clear hh8
  refine ⟨_, _, _, cellsAt_one (cellH_at C8.box), cntI 0 fun _ hp => hp = h8, cntM 0, cnt_0 rfl, ?_⟩
  rintro x hp1 ⟨i, hi, hx, rfl⟩
  cases hx
  refine ⟨fun hlt => absurd (cnt_lt hlt) (by omega), fun _ => ?_⟩
  refine ⟨_, _, _, cellsAt_one (cellH_at C8.box), (cln39_c (C8.x.cells S.a) rfl (by decide) (by decide) (by simp [Value.oneCell', SB.acts, SB.act0, act1])).mono ?_⟩
  rintro en h10 ⟨ba, ca, ga, x10, oa, rfl⟩
  have C10 := C8.ext x10
  have hz8 : h.size + 2 ≤ hp1.size := by have := om8.le1; omega
  refine ⟨_, _, _, rfl, rfl, wrAt_of C10.box (by simp) (.inl (Nat.zero_le _)), ?_⟩
  intro h11 hh11
  have k11 : ∀ q, q ≠ h.size → h11[q]? = h10[q]? := fun q hq => by rw [hh11]; exact setsH_ne hq
  have C11 : Cp h h11 (sl bm 1 cm) (sl ba 2 ca) (sl s.bt 2 s.ct) :=
    ⟨by rw [hh11]; exact C10.x.sets (Nat.le_refl _) _, by rw [hh11]; exact setsH_at C10.box, (k11 _ (by omega)).trans C10.res⟩
  have om11 := (om8.ext x10).keep1 (k11 _ (by have := om8.le1; omega))
  have oa11 : Own h11 (h.size + 2) 92 3 (sl ba 2 ca) 2 s.acts.flatten := (oa.keep1 (k11 _ (by omega))).re1 (by omega)
  clear hh11
  refine ⟨_, _, _, cellsAt_one (cellH_at C11.box), cntI 2 fun i hp => Cp h hp (sl bm 1 cm) (sl ba 2 ca) (sl s.bt 2 s.ct) ∧ Own hp (h.size + 2) 89 2 (sl bm 1 cm) 1 [.string sTo, vI w] ∧
    ∃ bp cp, Own hp (h.size + 2) 92 3 (sl ba 2 ca) 2 ([.string sOut, sl bp 1 cp, nilS] ++ act1) ∧ ((i = 0 ∧ bp = s.bp) ∨ Own hp (h.size + 2) 89 2 (sl bp 1 cp) 1 [.string sPort, vI 64]), cntM 2, cnt_0 ⟨C11, om11, s.bp, s.cp, oa11, .inl ⟨rfl, rfl⟩⟩, ?_⟩
  rintro x h12 ⟨i, hi, hx, C12, om12, bp, cp, oa12, hbp⟩
  cases hx
  refine ⟨fun hlt => ?_, fun hge => ?_⟩
  · have hlt := cnt_lt hlt
    have sg : SegS h12 (some ⟨ba, 0, none⟩) 2 3 [[.string sOut, sl bp 1 cp, nilS], act1] := Own.segS (rows := [[.string sOut, sl bp 1 cp, nilS], act1]) (c := ca) oa12 (by simp [act1]) rfl
    have hi2 : i = 0 ∨ i = 1 := by omega
    have hcell := cellsAt_one (cellH_at C12.box (o := 0 + 3)) (v := sl ba 2 ca)
    rcases hi2 with rfl | rfl
    · have hp12 : cellsAt h12 bp 0 [.string sPort, vI 64] := by
        rcases hbp with ⟨_, rfl⟩ | hbp
        · exact C12.x.cells S.p
        · exact hbp.cellsA
      obtain ⟨q1, q2, e1, e2, e3, e4⟩ := sg.at (i := 0) (by simp)
      refine ⟨fun hp => Ext h12 hp, Ext.refl _, _, _, _, fun h' x' => cellsAt_one (cellH_at (x'.at C12.box)), _, _, _, cellsAt_one (cellH_at C12.box), q1, q2, e1, e2, e3, _, _, _, _, _, _, _, e4, (action0_c hp12 _).mono ?_⟩
      rintro en h13 ⟨bp', cp', gp, x13, op, rfl⟩
      refine ⟨_, _, _, _, _, _, _, rfl, x13, (oa12.ext x13).storeS (i := 0) (by decide) rfl (by simp [Value.oneCell']) fun h14 oa14 g14 z14 => cnt_next hlt (by decide) ?_⟩
      have k14 : ∀ q, q < h13.size → q ≠ ba → h14[q]? = h13[q]? := fun q hq hne => g14.block q hq fun e => hne (Option.some.inj e)
      have om13 := om12.ext x13
      refine ⟨(C12.ext x13).keep (by omega) oa12.le1.1 k14, om13.keep1 (k14 _ om13.le1.2 (own_ne om12 oa12 (by decide))), bp', cp', ?_, .inr ?_⟩
      · rw [layC_list (by simp [act1])] at oa14
        exact oa14
      · have hg : h12.size ≤ bp' := gp
        have := C12.x.size
        have hz := (Array.getElem?_eq_some_iff.1 C12.res).1
        exact (op.keep1 (k14 _ op.le1.2 (own_ne op (oa12.ext x13) (by decide)))).re1 (by omega)
    · have hbp : Own h12 (h.size + 2) 89 2 (sl bp 1 cp) 1 [.string sPort, vI 64] := by
        rcases hbp with ⟨h0, _⟩ | hbp
        · cases h0
        · exact hbp
      obtain ⟨q1, q2, e1, e2, e3, e4⟩ := sg.at (i := 1) (by simp)
      refine ⟨fun hp => Ext h12 hp, Ext.refl _, _, _, _, fun h' x' => cellsAt_one (cellH_at (x'.at C12.box)), _, _, _, cellsAt_one (cellH_at C12.box), q1, q2, e1, e2, e3, _, _, _, _, _, _, _, e4, (action1_c _).mono ?_⟩
      rintro en h13 ⟨rfl, x13⟩
      refine ⟨_, _, _, _, _, _, _, rfl, x13, (oa12.ext x13).storeS (i := 1) (by decide) rfl (by simp [Value.oneCell']) fun h14 oa14 g14 z14 => cnt_next hlt (by decide) ?_⟩
      have k14 : ∀ q, q < h13.size → q ≠ ba → h14[q]? = h13[q]? := fun q hq hne => g14.block q hq fun e => hne (Option.some.inj e)
      have om13 := om12.ext x13
      have op13 := hbp.ext x13
      refine ⟨(C12.ext x13).keep (by omega) oa12.le1.1 k14, om13.keep1 (k14 _ om13.le1.2 (own_ne om12 oa12 (by decide))), bp, cp, ?_, .inr (op13.keep1 (k14 _ op13.le1.2 (own_ne hbp oa12 (by decide))))⟩
      rw [layC_list (by simp [act1])] at oa14
      exact oa14
  -- the tables
  have := cnt_ge hi hge
  subst this
  have op12 : Own h12 (h.size + 2) 89 2 (sl bp 1 cp) 1 [.string sPort, vI 64] := by
    rcases hbp with ⟨h0, _⟩ | hbp
    · cases h0
    · exact hbp
  clear hbp hge hi
  have hz12 : h.size + 2 ≤ h12.size := by have := om12.le1; omega
  refine ⟨_, _, _, cellsAt_one (cellH_at C12.box), (cln41_c (C12.x.cells S.t) rfl (by decide) (by decide) (by simp [Value.oneCell', SB.tabs, SB.tab])).mono ?_⟩
  rintro en h15 ⟨bt, ct, gt, x15, ot, rfl⟩
  have C15 := C12.ext x15
  refine ⟨_, _, _, rfl, rfl, wrAt_of C15.box (by simp) (.inl (Nat.zero_le _)), ?_⟩
  intro h16 hh16
  have k16 : ∀ q, q ≠ h.size → h16[q]? = h15[q]? := fun q hq => by rw [hh16]; exact setsH_ne hq
  have C16 : Cp h h16 (sl bm 1 cm) (sl ba 2 ca) (sl bt 2 ct) :=
    ⟨by rw [hh16]; exact C15.x.sets (Nat.le_refl _) _, by rw [hh16]; exact setsH_at C15.box, (k16 _ (by omega)).trans C15.res⟩
  have om16 := (om12.ext x15).keep1 (k16 _ (by have := om12.le1; omega))
  have oa16 := (oa12.ext x15).keep1 (k16 _ (by have := oa12.le1; omega))
  have op16 := (op12.ext x15).keep1 (k16 _ (by have := op12.le1; omega))
  have ot16 : Own h16 (h.size + 2) 73 7 (sl bt 2 ct) 2 s.tabs.flatten := (ot.keep1 (k16 _ (by omega))).re1 (by omega)
  clear hh16
  refine ⟨_, _, _, cellsAt_one (cellH_at C16.box), cntI 2 fun i hp => Cp h hp (sl bm 1 cm) (sl ba 2 ca) (sl bt 2 ct) ∧ Own hp (h.size + 2) 89 2 (sl bm 1 cm) 1 [.string sTo, vI w] ∧
    Own hp (h.size + 2) 92 3 (sl ba 2 ca) 2 ([.string sOut, sl bp 1 cp, nilS] ++ act1) ∧ Own hp (h.size + 2) 89 2 (sl bp 1 cp) 1 [.string sPort, vI 64] ∧
    ∃ bk ck bn cn, Own hp (h.size + 2) 73 7 (sl bt 2 ct) 2 (tabR bk ck bn cn false ++ tabR bk ck bn cn true) ∧ ∀ k : Bool, (i ≤ k.toNat ∧ bk k = s.bk k ∧ bn k = s.bn k) ∨ (k.toNat < i ∧ Own hp (h.size + 2) 94 3 (sl (bk k) 1 (ck k)) 1 [.string sMeta, .string sTo, vI (kd k)] ∧ Own hp (h.size + 2) 9 1 (sl (bn k) 2 (cn k)) 2 [.string sOut, .string sNone]),
    cntM 2, cnt_0 ⟨C16, om16, oa16, op16, s.bk, s.ck, s.bn, s.cn, ot16, fun k => .inl ⟨Nat.zero_le _, rfl, rfl⟩⟩, ?_⟩
  rintro x h17 ⟨i, hi, hx, C17, om17, oa17, op17, bk, ck, bn, cn, ot17, hk⟩
  cases hx
  refine ⟨fun hlt => ?_, fun hge => ?_⟩
  · have hlt := cnt_lt hlt
    obtain ⟨k, rfl⟩ := boolNat hlt
    have hk0 : bk k = s.bk k ∧ bn k = s.bn k := by
      rcases hk k with ⟨_, h1, h2⟩ | ⟨h1, _⟩
      · exact ⟨h1, h2⟩
      · exact absurd h1 (Nat.lt_irrefl _)
    have sg : SegS h17 (some ⟨bt, 0, none⟩) 2 7 [tabR bk ck bn cn false, tabR bk ck bn cn true] := Own.segS (rows := [tabR bk ck bn cn false, tabR bk ck bn cn true]) (c := ct) ot17 (by simp) rfl
    obtain ⟨q1, q2, e1, e2, e3, e4⟩ := sg.at (i := k.toNat) (by cases k <;> simp)
    have e4 : cellsAt h17 q1 (q2 + Int.toNat ((k.toNat : Nat) : Int) * 7) (tabR bk ck bn cn k) := by cases k <;> exact e4
    have hck : cellsAt h17 (bk k) 0 [.string sMeta, .string sTo, vI (kd k)] := by rw [hk0.1]; exact C17.x.cells (S.k k)
    have hcn : cellsAt h17 (bn k) 0 [.string sOut, .string sNone] := by rw [hk0.2]; exact C17.x.cells (S.n k)
    refine ⟨fun hp => Ext h17 hp, Ext.refl _, _, _, _, fun h' x' => cellsAt_one (cellH_at (x'.at C17.box)), _, _, _, cellsAt_one (cellH_at C17.box), q1, q2, e1, e2, e3, _, _, _, _, _, _, _, _, _, _, _, _, _, e4, (table_c hck hcn _ _ _ _).mono ?_⟩
    rintro en h18 ⟨b', c', bn', cn', x18, g1, g2, o1, o2, rfl⟩
    refine ⟨_, _, _, _, _, _, _, _, _, _, _, _, _, rfl, x18, (ot17.ext x18).storeS (i := k.toNat) (by cases k <;> decide) rfl (by simp [Value.oneCell']) fun h19 ot19 g19 z19 => cnt_next hlt (by decide) ?_⟩
    have k19 : ∀ q, q < h18.size → q ≠ bt → h19[q]? = h18[q]? := fun q hq hne => g19.block q hq fun e => hne (Option.some.inj e)
    have ot18 := ot17.ext x18
    have om18 := om17.ext x18
    have oa18 := oa17.ext x18
    have op18 := op17.ext x18
    have hz17 : h.size + 2 ≤ h17.size := by have := om17.le1; omega
    have o1' : Own h19 (h.size + 2) 94 3 (sl b' 1 c') 1 [.string sMeta, .string sTo, vI (kd k)] := (o1.keep1 (k19 _ o1.le1.2 (own_ne o1 ot18 (by decide)))).re1 (by omega)
    have o2' : Own h19 (h.size + 2) 9 1 (sl bn' 2 cn') 2 [.string sOut, .string sNone] := (o2.keep1 (k19 _ o2.le1.2 (own_ne o2 ot18 (by decide)))).re1 (by omega)
    refine ⟨(C17.ext x18).keep (by omega) ot17.le1.1 k19, om18.keep1 (k19 _ om18.le1.2 (own_ne om18 ot18 (by decide))), oa18.keep1 (k19 _ oa18.le1.2 (own_ne oa18 ot18 (by decide))), op18.keep1 (k19 _ op18.le1.2 (own_ne op18 ot18 (by decide))),
      put2 bk k b', put2 ck k c', put2 bn k bn', put2 cn k cn', ?_, fun q => ?_⟩
    · rw [layC_list (by cases k <;> simp)] at ot19
      cases k <;> exact ot19
    · by_cases hq : q = k
      · subst hq
        rw [put2_at, put2_at, put2_at, put2_at]
        exact .inr ⟨Nat.lt_succ_self _, o1', o2'⟩
      · rw [put2_ne _ _ hq, put2_ne _ _ hq, put2_ne _ _ hq, put2_ne _ _ hq]
        rcases hk q with ⟨h1, h2, h3⟩ | ⟨h1, h2, h3⟩
        · have : q.toNat ≠ k.toNat := by intro e; apply hq; cases q <;> cases k <;> first | rfl | cases e
          exact .inl ⟨by omega, h2, h3⟩
        · have h2' := h2.ext x18
          have h3' := h3.ext x18
          exact .inr ⟨by omega, h2'.keep1 (k19 _ h2'.le1.2 (own_ne h2' ot18 (by decide))), h3'.keep1 (k19 _ h3'.le1.2 (own_ne h3' ot18 (by decide)))⟩
  have := cnt_ge hi hge
  subst this
  refine ⟨_, _, _, cellsAt_one (cellH_at C17.box), stages_c.mono ?_⟩
  rintro en h20 ⟨rfl, rfl⟩
  refine ⟨_, _, _, rfl, rfl, wrAt_of C17.box (by simp) (.inl (Nat.zero_le _)), ?_⟩
  intro h21 hh21
  have k21 : ∀ q, q ≠ h.size → h21[q]? = h20[q]? := fun q hq => by rw [hh21]; exact setsH_ne hq
  have C21 : Cp h h21 (sl bm 1 cm) (sl ba 2 ca) (sl bt 2 ct) :=
    ⟨by rw [hh21]; exact C17.x.sets (Nat.le_refl _) _, by rw [hh21]; exact setsH_at C17.box, (k21 _ (by omega)).trans C17.res⟩
  clear hh21
  refine ⟨_, _, _, _, _, _, _, _, _, _, _, _, _, _, _, _, _, _, cellsAt_all C21.box, stoT (n := 6) C21.x (by omega) C21.res rfl zS_size (by simp [Value.oneCell']) fun h22 x22 z22 c22 k22 => ⟨_, _, _, _, _, _, _, _, _, _, _, _, _, _, _, _, _, _, cellsAt_all c22, ⟨bm, cm, ba, ca, bp, cp, bt, ct, bk, ck, bn, cn⟩, x22, ?_, rfl⟩⟩
  have kk : ∀ q, h.size + 2 ≤ q → h22[q]? = h20[q]? := fun q hq => (k22 q (by omega)).trans (k21 q (by omega))
  have hkk : ∀ k : Bool, Own h20 (h.size + 2) 94 3 (sl (bk k) 1 (ck k)) 1 [.string sMeta, .string sTo, vI (kd k)] ∧ Own h20 (h.size + 2) 9 1 (sl (bn k) 2 (cn k)) 2 [.string sOut, .string sNone] := fun k => by
    rcases hk k with ⟨h1, _⟩ | ⟨_, h2⟩
    · cases k <;> simp at h1
    · exact h2
  exact ⟨(om17.keep1 (kk _ om17.le1.1)).cellsA, (oa17.keep1 (kk _ oa17.le1.1)).cellsA, (op17.keep1 (kk _ op17.le1.1)).cellsA, (ot17.keep1 (kk _ ot17.le1.1)).cellsA,
    fun k => ((hkk k).1.keep1 (kk _ (hkk k).1.le1.1)).cellsA, fun k => ((hkk k).2.keep1 (kk _ (hkk k).2.le1.1)).cellsA, S.w1, S.w2⟩
end
end Go.Vc
