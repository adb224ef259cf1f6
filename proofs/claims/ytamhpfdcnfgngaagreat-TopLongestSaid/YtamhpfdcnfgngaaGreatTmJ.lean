/- TopLongest: match.of, Who and Right. -/
import Derived.Test.YtamhpfdcnfgngaaGreatTmI
set_option maxRecDepth 10000
namespace Go.Vc
open Go Go.Proofs Go.MapKept

theorem row193 : RowT Tryz.prog 193 209 6 48 := RowT.of (by kernel_rfl)

section
variable {h : Hp} {w : Nat} {s : SB}

theorem cells_old {h h' : Hp} {b o : Nat} {vs : List Value} (k : ∀ q, q < h.size → h'[q]? = h[q]?) (hc : cellsAt h b o vs) : cellsAt h' b o vs := by
  cases vs with
  | nil => trivial
  | cons v r => exact cellsAt_congr (k b (cellH_lt hc.1)) hc
theorem cells_off {h h' : Hp} {b c o : Nat} {vs : List Value} (k : ∀ q, q ≠ c → h'[q]? = h[q]?) (hc : cellsAt h b o vs) (hne : b ≠ c) : cellsAt h' b o vs := cellsAt_congr (k b hne) hc
theorem MayOk.old {h h' : Hp} {k : Bool} {f : Value} (m : MayOk h w k f) (kk : ∀ q, q < h.size → h'[q]? = h[q]?) : MayOk h' w k f := by
  cases k
  · obtain ⟨a, b, h1, h2, h3⟩ := m; exact ⟨a, b, h1, cells_old kk h2, cells_old kk h3⟩
  · obtain ⟨a, b, h1, h2, h3⟩ := m; exact ⟨a, b, h1, cells_old kk h2, cells_old kk h3⟩
theorem first_ne {h : Hp} {b c : Nat} {cs : Array Value} {t : TypeId} {u v : Value} {r : List Value} (hc : h[c]? = some (.cells cs t)) (hu : cs[0]? = some u) (hb : cellsAt h b 0 (v :: r)) (hne : v ≠ u) : b ≠ c := by
  rintro rfl
  have h1 := hb.1
  rw [cellH_at hc, hu] at h1
  exact hne (Option.some.inj h1).symm
theorem mayW {w : Nat} (w1 : 1 ≤ w) : (vI w : Value) ≠ vZ 0 := by
  intro e
  have e' : ((w : Nat) : Int) = 0 := by injection e
  omega
theorem MayOk.off {h h' : Hp} {k : Bool} {f : Value} (m : MayOk h w k f) (w1 : 1 ≤ w) {c : Nat} {cs : Array Value} {t : TypeId} (hc : h[c]? = some (.cells cs t)) (hu : cs[0]? = some (vZ 0)) (kk : ∀ q, q ≠ c → h'[q]? = h[q]?) : MayOk h' w k f := by
  cases k
  · obtain ⟨a, b, h1, h2, h3⟩ := m
    exact ⟨a, b, h1, cells_off kk h2 (first_ne hc hu h2 (mayW w1)), cells_off kk h3 (first_ne hc hu h3 (by intro e; cases e))⟩
  · obtain ⟨a, b, h1, h2, h3⟩ := m
    exact ⟨a, b, h1, cells_off kk h2 (first_ne hc hu h2 (by intro e; cases e)), cells_off kk h3 (first_ne hc hu h3 (by intro e; cases e))⟩
theorem MayOk.first_off2 {h h' : Hp} {k : Bool} {f : Value} (m : MayOk h w k f) {c : Nat} {cs : Array Value} {t : TypeId} {u : ByteArray} (hc : h[c]? = some (.cells cs t)) (hu : cs[0]? = some (.string u)) (kk : ∀ q, q ≠ c → h'[q]? = h[q]?) : MayOk h' w k f := by
  cases k
  · obtain ⟨a, b, h1, h2, h3⟩ := m
    exact ⟨a, b, h1, cells_off kk h2 (first_ne hc hu h2 (by intro e; cases e)), cells_off kk h3 (first_ne hc hu h3 (by intro e; cases e))⟩
  · obtain ⟨a, b, h1, h2, h3⟩ := m
    exact ⟨a, b, h1, cells_off kk h2 (first_ne hc hu h2 (by intro e; cases e)), cells_off kk h3 (first_ne hc hu h3 (by intro e; cases e))⟩
theorem six_one {a b : Int} {f g1 g2 g3 : Value} (h0 : f.oneCell' = true) (h1 : g1.oneCell' = true) (h2 : g2.oneCell' = true) (h3 : g3.oneCell' = true) : ∀ v ∈ [vZ a, vZ b, f, g1, g2, g3], v.oneCell' = true := by
  intro v hv
  simp only [List.mem_cons, List.not_mem_nil, or_false] at hv
  rcases hv with rfl | rfl | rfl | rfl | rfl | rfl
  · rfl
  · rfl
  · exact h0
  · exact h1
  · exact h2
  · exact h3
theorem z209_0 : (zeros Tryz.prog 209)[0]? = some (vZ 0) := by kernel_rfl

abbrev tabP (k : Bool) (bk ck bn cn : Nat) (p : Value) : Array Value := #[.string (nm k), sl bk 1 ck, sl bn 2 cn, vI 200, .string sNone, nilS, .bool false, p, .bool k]

theorem of_c (S : Sch h w s) (k : Bool) : CallsH Tryz.prog 94 #[s.val, .string (nm k)] h fun e h' => Ext h h' ∧ ∃ bk ck bn cn bp cp, ∃ f g1 g2 g3 : Value, e = .returned (.tuple #[.agg (tabP k bk ck bn cn (sl bp 1 cp)), vZ 0]) ∧
    cellsAt h' bp 0 [vI (kd k), vI w, f, g1, g2, g3] ∧ MayOk h' w k f ∧ g1.oneCell' = true ∧ g2.oneCell' = true ∧ g3.oneCell' = true := by
  refine V94 _ _ _ _ _ _ _ _ _ _ _ _ _ _ _ _ _ _ _ h _ ?_
  rintro b0 h0 rfl rfl b1 h1 hb1 hh1
  have x1 : Ext h h1 := by rw [hh1]; exact (Ext.push _ _).box _
  have c0 : h1[h.size]? = some (.cells s.cells.toArray 36) := by rw [hh1]; exact (Ext.push _ _).at push_last
  have c1 : h1[b1]? = some (.cells (zeros Tryz.prog 195) 195) := by rw [hh1, hb1]; exact push_last
  have n1 : b1 = h.size + 1 := by rw [hb1]; simp
  have z1 : h1.size = h.size + 2 := by rw [hh1]; simp
  clear hh1 hb1
  refine ⟨info195, _, _, _, _, _, _, _, _, _, _, _, _, _, _, _, _, _, _, cellsAt_all c0, (check_c (S.ext x1)).mono ?_⟩
  rintro en h2 ⟨rfl, x2⟩
  refine ⟨_, _, rfl, fun hf => absurd hf (by decide), fun _ => ⟨_, _, _, _, _, _, _, _, _, _, _, _, _, _, _, _, _, _, cellsAt_all (x2.at c0), (tableOf_c ((S.ext x1).ext x2) k).mono ?_⟩⟩
  rintro en h3 ⟨bk, ck, bn, cn, x3, g1, g2, o1, o2, rfl⟩
  refine ⟨_, _, _, _, _, _, _, _, _, _, _, _, _, _, _, rfl, ?_⟩
  rintro b2 h4 rfl rfl
  have x4 := Ext.push h3 (.cells zT 73)
  refine ⟨info73, stoT (n := 7) x4 (Nat.le_refl _) push_last rfl zT_size (by simp [Value.oneCell']) fun h5 x5 z5 c5 k5 => ⟨fun hf => absurd hf (by decide), fun _ => ?_⟩⟩
  have x05 : Ext h h5 := ((x1.trans x2).trans x3).trans x5
  have hk5 : cellsAt h5 bk 0 [.string sMeta, .string sTo, vI (kd k)] := x5.cells o1.cellsA
  have hkd : decide (((kd k : Nat) : Int) = (3 : Int)) = k := by cases k <;> rfl
  refine ⟨fun vs q => ∃ bo, vs = [vP bo] ∧ h5.size ≤ bo ∧ Ext h5 q ∧ q[bo]? = some (.cells (tabP k bk ck bn cn nilS) 195), ⟨⟨fun q => Ext h5 q, Ext.refl _, _, _, _, _, _, _, _, _, _, _, _, _, _, fun q xq => cellsAt_all (xq.at c5), _, _, _, _, _, _, _, _, _, _, _, _, _, fun q xq => cellsAt_all (xq.at c5), (kind_c hk5 _ _ _ _ _ _ _ _ _ _).mono ?_⟩, ⟨fun q => Ext h5 q, Ext.refl _, _, _, _, _, _, _, _, _, _, _, _, _, _, fun q xq => cellsAt_all (xq.at c5), _, _, _, _, _, _, _, _, _, _, _, _, _, fun q xq => cellsAt_all (xq.at c5), ?_⟩⟩, ?_⟩
  · rintro en h6 ⟨rfl, x6⟩
    refine ⟨_, rfl, x6, ?_⟩
    rintro b3 h7 rfl rfl
    have x7 := x6.box (.cells (zeros Tryz.prog 195) 195)
    refine ⟨info195, x7, stoT (n := 9) x7 x6.size push_last rfl z195_size (by simp [Value.oneCell']) fun h8 x8 z8 c8 k8 => ⟨x8, h6.size, rfl, x6.size, x8, ?_⟩⟩
    rw [hkd] at c8
    exact c8
  · rintro b3 h6 rfl rfl
    have x6 := Ext.push h5 (.cells (zeros Tryz.prog 195) 195)
    refine ⟨info195, x6, (kind_c (x6.cells hk5) _ _ _ _ _ _ _ _ _ _).mono ?_⟩
    rintro en h7 ⟨rfl, x7⟩
    refine ⟨_, rfl, x6.trans x7, stoT (n := 9) (x6.trans x7) (Nat.le_refl _) (x7.at push_last) rfl z195_size (by simp [Value.oneCell']) fun h8 x8 z8 c8 k8 => ⟨x8, h5.size, rfl, Nat.le_refl _, x8, ?_⟩⟩
    rw [hkd] at c8
    exact c8
  rintro out h12 ⟨bo, hv, hbo, x12, co⟩
  cases hv
  have x012 := x05.trans x12
  have c0' := (((x2.trans x3).trans x5).trans x12).at c0
  refine ⟨_, _, _, _, _, _, _, _, _, _, _, _, _, _, _, _, _, _, cellsAt_all c0', (widths_c (S.ext x012) k).mono ?_⟩
  rintro en h13 ⟨bw, cw, gw, x13, ow, rfl⟩
  have x013 := x012.trans x13
  have hz5 := x05.size
  refine ⟨_, _, _, _, rfl, _, _, _, cellsAt_one (cellH_at ((x12.trans x13).at c5)), fun vs q => (vs = [vI 0] ∧ q = h13) ∨ (vs = [vI 1] ∧ Ext h q ∧ q[b1]? = some (.cells (zeros Tryz.prog 195) 195) ∧ ∃ bp cp, ∃ f g1 g2 g3 : Value, q[bo]? = some (.cells (tabP k bk ck bn cn (sl bp 1 cp)) 195) ∧
    cellsAt q bp 0 [vI (kd k), vI w, f, g1, g2, g3] ∧ MayOk q w k f ∧ g1.oneCell' = true ∧ g2.oneCell' = true ∧ g3.oneCell' = true), fun vs _ => 1 - (numAt vs 0).toNat, .inl ⟨rfl, rfl⟩, ?_⟩
  rintro x h14 (⟨hv, rfl⟩ | ⟨hv, x14, cb1, bp, cp, f, q1, q2, q3, cbo, hbp, hm, r1, r2, r3⟩)
  · cases hv
    refine ⟨fun _ => ?_, fun hf => absurd hf (by decide)⟩
    have hk14 := (x12.trans x13).cells hk5
    have sg : SegS h14 (some ⟨bk, 0, none⟩) 1 3 [[.string sMeta, .string sTo, vI (kd k)]] := seg_of rfl (by simp) (by simpa using hk14)
    obtain ⟨q1, q2, e1, e2, e3, e4⟩ := sg.at (i := 0) (by simp)
    refine ⟨q1, q2, e1, e2, e3, _, _, _, e4, ?_⟩
    rintro b6 h15 rfl rfl
    have x15 := Ext.push h14 (.cells zK 94)
    refine ⟨info94, stoT (n := 3) x15 (Nat.le_refl _) push_last rfl zK_size (by simp [Value.oneCell']) fun h16 x16 z16 c16 k16 => ?_⟩
    have ow16 := ow.ext x16
    have hw16 : ∀ q, Ext h16 q → cellsAt q bw (0 + Int.toNat (0 : Int) * 1) [vI w] := fun q xq => xq.cells ow16.cellsA
    have hw2 := S.w2
    refine ⟨fun vs q => ∃ b8, vs = [vP b8] ∧ h16.size ≤ b8 ∧ Ext h16 q ∧ ∃ f g1 g2 g3 : Value, q[b8]? = some (.cells #[vZ 0, vZ 0, f, g1, g2, g3] 209) ∧ (∀ q', (∀ p, p ≠ b8 → q'[p]? = q[p]?) → MayOk q' w k f) ∧ g1.oneCell' = true ∧ g2.oneCell' = true ∧ g3.oneCell' = true, ⟨?_, ?_, ?_⟩, ?_⟩
    · refine ⟨fun q => Ext h16 q, Ext.refl _, bw, 0, rfl, by decide, by decide, _, hw16, (kinds_c hw2).mono ?_⟩
      rintro en h17 ⟨x17, r, p1, p2, p3, p4, rfl, m17, po2, po3⟩
      have po : PartOk h17 w k 0 0 (cond k p3 p2) := by cases k; exact po2; exact po3
      obtain ⟨f, g1, g2, g3, hp, hm, r1, r2, r3⟩ := po
      refine ⟨_, rfl, x17, _, fun q xq => cellsAt_one (cellH_at (xq.at c16)), lookup_kind m17 ?_⟩
      rw [hp]
      refine ⟨_, _, _, _, _, _, rfl, x17, ?_⟩
      rintro b8 h19 rfl rfl
      have x19 := Ext.push h17 (.cells (zeros Tryz.prog 209) 209)
      refine ⟨info209, x17.trans x19, stoT (n := 6) x19 (Nat.le_refl _) push_last rfl z209_size (six_one hm.one r1 r2 r3) fun h20 x20 z20 c20 k20 => ⟨x17.trans x20, h17.size, rfl, x17.size, x17.trans x20, f, g1, g2, g3, c20, fun q' hq => hm.old fun p hp => (hq p (Nat.ne_of_lt hp)).trans (x20.old p hp), r1, r2, r3⟩⟩
    · refine ⟨fun q => Ext h16 q, Ext.refl _, bw, 0, rfl, by decide, by decide, _, hw16, ?_⟩
      rintro b8 h17 rfl rfl
      have x17 := Ext.push h16 (.cells (zeros Tryz.prog 209) 209)
      refine ⟨info209, x17, (kinds_c hw2).mono ?_⟩
      rintro en h18 ⟨x18, r, p1, p2, p3, p4, rfl, m18, po2, po3⟩
      have po : PartOk h18 w k 0 0 (cond k p3 p2) := by cases k; exact po2; exact po3
      obtain ⟨f, g1, g2, g3, hp, hm, r1, r2, r3⟩ := po
      have c18 := x18.at (push_last (h := h16) (o := .cells (zeros Tryz.prog 209) 209))
      refine ⟨_, rfl, x17.trans x18, _, fun q xq => cellsAt_one (cellH_at (xq.at c16)), lookup_kind m18 ?_⟩
      rw [hp]
      exact ⟨_, _, _, _, _, _, rfl, x17.trans x18, stoT (n := 6) (x17.trans x18) (Nat.le_refl _) c18 rfl z209_size (six_one hm.one r1 r2 r3) fun h20 x20 z20 c20 k20 => ⟨x20, h16.size, rfl, Nat.le_refl _, x20, f, g1, g2, g3, c20, fun q' hq => hm.off S.w1 c18 z209_0 fun p hp => (hq p hp).trans (k20 p hp), r1, r2, r3⟩⟩
    · refine ⟨fun q => Ext h16 q, Ext.refl _, bw, 0, rfl, by decide, by decide, _, hw16, (kinds_c hw2).mono ?_⟩
      rintro en h17 ⟨x17, r, p1, p2, p3, p4, rfl, m17, po2, po3⟩
      have po : PartOk h17 w k 0 0 (cond k p3 p2) := by cases k; exact po2; exact po3
      obtain ⟨f, g1, g2, g3, hp, hm, r1, r2, r3⟩ := po
      refine ⟨_, rfl, x17, _, fun q xq => cellsAt_one (cellH_at (xq.at c16)), ?_⟩
      rintro b8 h19 rfl rfl
      have x19 := Ext.push h17 (.cells (zeros Tryz.prog 209) 209)
      refine ⟨info209, x17.trans x19, lookup_kind (m17.ext x19) ?_⟩
      rw [hp]
      exact ⟨_, _, _, _, _, _, rfl, x17.trans x19, stoT (n := 6) x19 (Nat.le_refl _) push_last rfl z209_size (six_one hm.one r1 r2 r3) fun h20 x20 z20 c20 k20 => ⟨x17.trans x20, h17.size, rfl, x17.size, x17.trans x20, f, g1, g2, g3, c20, fun q' hq => hm.old fun p hp => (hq p (Nat.ne_of_lt hp)).trans (x20.old p hp), r1, r2, r3⟩⟩
    rintro p h29 ⟨b8, hv, hb8, x29, f, g1, g2, g3, c29, hmo, r1, r2, r3⟩
    cases hv
    have hf1 := (hmo h29 fun _ _ => rfl).one
    refine ⟨fun q => Ext h16 q, x29, _, cellsAt_one (cellH_at (x29.at c16)), bw, 0, rfl, by decide, by decide, _, hw16, b8, 0, rfl, rfl, wrAt_of c29 (by simp) (.inl (Nat.zero_le _)), ?_⟩
    intro h30 hh30
    have k30 : ∀ q, q ≠ b8 → h30[q]? = h29[q]? := fun q hq => by rw [hh30]; exact setsH_ne hq
    have c30 : h30[b8]? = some (.cells #[vI (kd k), vZ 0, f, g1, g2, g3] 209) := by rw [hh30]; exact setsH_at c29
    have x30 : Ext h16 h30 := by rw [hh30]; exact x29.sets hb8 _
    clear hh30
    refine ⟨x30, b8, 0, rfl, rfl, wrAt_of c30 (by simp) (.inl (Nat.zero_le _)), ?_⟩
    intro h31 hh31
    have k31 : ∀ q, q ≠ b8 → h31[q]? = h30[q]? := fun q hq => by rw [hh31]; exact setsH_ne hq
    have c31 : h31[b8]? = some (.cells #[vI (kd k), vI w, f, g1, g2, g3] 209) := by rw [hh31]; exact setsH_at c30
    have x31 : Ext h16 h31 := by rw [hh31]; exact x30.sets hb8 _
    clear hh31
    have hm31 := hmo h31 fun q hq => (k31 q hq).trans (k30 q hq)
    have z13 := x13.size
    have z14 := (Array.getElem?_eq_some_iff.1 (x13.at co)).1
    have z15 := x16.size
    have co31 := x31.at (x16.at (x13.at co))
    refine ⟨bo, 0, rfl, _, _, _, cellsAt_one (cellH_at co31), b8, 0, rfl, _, _, _, _, _, _, cellsAt_all (vs := [vI (kd k), vI w, f, g1, g2, g3]) c31, ?_⟩
    refine semH_pushS row193 (by decide) (Own.nil h31 h31.size 209 6) (r := [vI (kd k), vI w, f, g1, g2, g3]) rfl rfl (by decide) (six_one hf1 r1 r2 r3) (by decide) (by decide) (Nat.le_refl _) fun p' c' h33 o33 g33 _ _ => ?_
    have x33 : Ext h31 h33 := ⟨g33.size, fun q hq => g33.block q hq (by simp [Value.ownBlock])⟩
    have co33 := x33.at co31
    refine ⟨bo, 0, rfl, rfl, wrAt_of co33 (by simp) (.inl (Nat.zero_le _)), ?_⟩
    intro h34 hh34
    obtain ⟨bp, hbp⟩ : ∃ bp, p' = some ⟨bp, 0, none⟩ := by
      rcases o33.2 with ⟨_, hh⟩ | ⟨g, cap, cur, hv, _⟩
      · cases hh
      · cases hv; exact ⟨g, rfl⟩
    subst hbp
    have k34 : ∀ q, q ≠ bo → h34[q]? = h33[q]? := fun q hq => by rw [hh34]; exact setsH_ne hq
    have c34 : h34[bo]? = some (.cells (tabP k bk ck bn cn (sl bp 1 c')) 195) := by rw [hh34]; exact setsH_at co33
    have hx16 : Ext h h16 := x013.trans x16
    have x34 : Ext h h34 := by rw [hh34]; exact ((hx16.trans x31).trans x33).sets (by omega) _
    clear hh34
    have hbpo : bp ≠ bo := by
      have := o33.le1.1
      have := x31.size
      omega
    refine ⟨1, by decide, .inr ⟨rfl, x34, ?_, bp, c', f, g1, g2, g3, c34, ?_, ?_, r1, r2, r3⟩, show 0 < 1 by decide⟩
    · have hb1lt := (Array.getElem?_eq_some_iff.1 c1).1
      have := (((x2.trans x3).trans x5)).size
      rw [k34 _ (by omega)]
      exact x33.at (x31.at (x16.at (x13.at (x12.at (x5.at (x3.at (x2.at c1)))))))
    · exact cells_off k34 o33.cellsA hbpo
    · -- the closure's cells lie elsewhere
      exact (hm31.ext x33).first_off2 co33 rfl k34
  · cases hv
    refine ⟨fun hf => absurd hf (by decide), fun _ => ?_⟩
    have hz := (Array.getElem?_eq_some_iff.1 cb1).1
    have hb1 : b1 ≠ bo := by
      have hb1lt := (Array.getElem?_eq_some_iff.1 c1).1
      have := (((x2.trans x3).trans x5)).size
      omega
    refine ⟨bo, 0, rfl, _, _, _, _, _, _, _, _, _, _, _, _, _, _, _, _, _, cellsAt_all cbo, stoT (n := 9) x14 (by omega) cb1 rfl z195_size (by simp [Value.oneCell']) fun h35 x35 z35 c35 k35 => ⟨_, _, _, _, _, _, _, _, _, _, _, _, _, _, _, _, _, cellsAt_all c35, x35, bk, ck, bn, cn, bp, cp, f, q1, q2, q3, rfl, ?_, ?_, r1, r2, r3⟩⟩
    · refine cells_off k35 hbp (first_ne cb1 (u := .string ⟨#[]⟩) (by kernel_rfl) hbp (by intro e; cases e))
    · exact hm.first_off2 cb1 (u := ⟨#[]⟩) (by kernel_rfl) k35
end
end Go.Vc
