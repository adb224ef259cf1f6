/- TopLongest: a copy of an entry; a new list. -/
import Derived.Test.YtamhpfdcnfgngaaGreatTmN
set_option maxRecDepth 10000
namespace Go.Vc
open Go Go.Proofs Go.MapKept

section
variable {h : Hp} {w : Nat} {k : Bool} {s : SB}

theorem copied_c {mp mc n p ab ao ac : Nat} {v : B128} {y : BitVec 64} {act : ByteArray} (hm : cellsAt h mp 0 (mcells k w n v)) (ha : cellsAt h ab ao [.int .u64 0, vW y]) :
    CallsH Tryz.prog 164 #[.agg #[sl mp 1 mc, vI p, .string act, .slice (some ⟨ab, ao, none⟩) 1 ac]] h fun e h' => ∃ b c b2 c2, h.size ≤ b ∧ h.size ≤ b2 ∧ Ext h h' ∧ cellsAt h' b 0 (mcells k w n v) ∧ cellsAt h' b2 0 [.int .u64 0, vW y] ∧
      e = .returned (.agg #[sl b 1 c, vI p, .string act, sl b2 1 c2]) := by
  refine V164 _ _ _ _ _ _ _ _ h _ ?_
  rintro b0 h0 rfl rfl b1 h1 hb1 hh1
  refine ⟨info53, ?_⟩
  have x1 : Ext h h1 := by rw [hh1]; exact (Ext.push _ _).box _
  have c0 : h1[h.size]? = some (.cells #[sl mp 1 mc, vI p, .string act, .slice (some ⟨ab, ao, none⟩) 1 ac] 53) := by rw [hh1]; exact (Ext.push _ _).at push_last
  have c1 : h1[b1]? = some (.cells (zeros Tryz.prog 53) 53) := by rw [hh1, hb1]; exact push_last
  have n1 : b1 = h.size + 1 := by rw [hb1]; simp
  clear hb1 hh1
  refine ⟨_, _, _, cellsAt_one (cellH_at c0), (cln180_c (x1.cells hm) rfl (by decide) (by decide) (by simp [mcells, Value.oneCell'])).mono ?_⟩
  rintro en h2 ⟨b, c, g2, x2, o2, rfl⟩
  have hb1 := (Array.getElem?_eq_some_iff.1 c1).1
  refine ⟨_, _, _, rfl, rfl, wrAt_of (x2.at c0) (by simp) (.inl (Nat.zero_le _)), ?_⟩
  intro h3 hh3
  have k3 : ∀ q, q ≠ h.size → h3[q]? = h2[q]? := fun q hq => by rw [hh3]; exact setsH_ne hq
  have c3 : h3[h.size]? = some (.cells #[sl b 1 c, vI p, .string act, .slice (some ⟨ab, ao, none⟩) 1 ac] 53) := by rw [hh3]; exact setsH_at (x2.at c0)
  have x3 : Ext h h3 := by rw [hh3]; exact (x1.trans x2).sets (Nat.le_refl _) _
  have s3 : h3.size = h2.size := by rw [hh3]; exact setsH_size
  have m3 : cellsAt h3 b 0 (mcells k w n v) := cells_off k3 o2.cellsA (by omega)
  clear hh3
  have ha3 := x3.cells ha
  refine ⟨_, _, _, cellsAt_one (cellH_at c3), (cln44_c ha3 rfl (by decide) (by decide) (by simp [Value.oneCell'])).mono ?_⟩
  rintro en h4 ⟨b2, c2, g4, x4, o4, rfl⟩
  have z3 := x3.size
  have z32 := (Array.getElem?_eq_some_iff.1 c3).1
  refine ⟨_, _, _, rfl, rfl, wrAt_of (x4.at c3) (by simp) (.inl (Nat.zero_le _)), ?_⟩
  intro h5 hh5
  have k5 : ∀ q, q ≠ h.size → h5[q]? = h4[q]? := fun q hq => by rw [hh5]; exact setsH_ne hq
  have c5 : h5[h.size]? = some (.cells #[sl b 1 c, vI p, .string act, sl b2 1 c2] 53) := by rw [hh5]; exact setsH_at (x4.at c3)
  have x5 : Ext h h5 := by rw [hh5]; exact (x3.trans x4).sets (Nat.le_refl _) _
  have m5 : cellsAt h5 b 0 (mcells k w n v) := cells_off k5 (x4.cells m3) (by omega)
  have a5 : cellsAt h5 b2 0 [.int .u64 0, vW y] := cells_off k5 o4.cellsA (by omega)
  have d5 : h5[b1]? = some (.cells (zeros Tryz.prog 53) 53) := by
    rw [k5 _ (by omega), x4.old _ ?_, k3 _ (by omega)]
    · exact x2.at c1
    · have := x2.size
      omega
  clear hh5
  have hb : h.size ≤ b := by have := x1.size; omega
  refine ⟨_, _, _, _, _, _, _, _, cellsAt_all c5, stoT (n := 4) x5 (by omega) d5 rfl z53_size (by simp [Value.oneCell']) fun h6 x6 z6 c6 k6 => ⟨_, _, _, _, _, _, _, _, cellsAt_all c6, b, c, b2, c2, hb, by omega, x6, ?_, ?_, rfl⟩⟩
  · exact cells_off k6 m5 (by have := o2.le1.1; have := x1.size; omega)
  · exact cells_off k6 a5 (by have := x2.size; omega)

theorem newList_c (S : Sch h w s) (k : Bool) : CallsH Tryz.prog 17 #[s.val, .string (nm k), vI 200] h fun e h' => ∃ bl L, Ext h h' ∧ h.size ≤ bl ∧ LOk h' w k L ∧ h'[bl]? = some (.cells (L.cells k 0 nilS) 144) ∧ e = .returned (.tuple #[vP bl, vZ 0]) := by
  refine V17 _ _ _ _ _ _ _ _ _ _ _ _ _ _ _ _ _ _ _ _ h _ ?_
  rintro b0 h0 rfl hh0
  have x0 : Ext h h0 := by rw [hh0]; exact Ext.push _ _
  have c0 : h0[h.size]? = some (.cells s.cells.toArray 36) := by rw [hh0]; exact push_last
  clear hh0
  refine ⟨fun vs q => q = h0, ⟨false, ⟨fun hf => absurd hf (by decide), fun _ => ⟨rfl, by decide⟩⟩, fun hf => absurd hf (by decide), fun _ => rfl⟩, ?_⟩
  rintro h1 rfl
  refine ⟨_, _, _, _, _, _, _, _, _, _, _, _, _, _, _, _, _, _, cellsAt_all c0, (check_c (S.ext x0)).mono ?_⟩
  rintro en h2 ⟨rfl, x2⟩
  refine ⟨_, _, rfl, fun hf => absurd hf (by decide), fun _ => ⟨_, _, _, _, _, _, _, _, _, _, _, _, _, _, _, _, _, _, cellsAt_all (x2.at c0), (tableOf_c ((S.ext x0).ext x2) k).mono ?_⟩⟩
  rintro en h3 ⟨bk, ck, bn, cn, x3, g1, g2, o1, o2, rfl⟩
  refine ⟨_, _, _, _, _, _, _, _, _, _, _, _, _, _, _, rfl, ?_⟩
  rintro b1 h4 rfl rfl
  have x4 := Ext.push h3 (.cells zT 73)
  refine ⟨info73, stoT (n := 7) x4 (Nat.le_refl _) push_last rfl zT_size (by simp [Value.oneCell']) fun h5 x5 z5 c5 k5 => ⟨fun hf => absurd hf (by decide), fun _ => ?_⟩⟩
  have x05 := ((x0.trans x2).trans x3).trans x5
  have hk5 : cellsAt h5 bk 0 [.string sMeta, .string sTo, vI (kd k)] := x5.cells o1.cellsA
  refine ⟨_, _, _, _, _, _, _, _, _, _, _, _, _, _, _, _, _, _, cellsAt_all (((x2.trans x3).trans x5).at c0), (copy_c (S.ext x05)).mono ?_⟩
  rintro en h6 ⟨s', x6, S6, rfl⟩
  refine ⟨_, _, _, _, _, _, _, _, _, _, _, _, _, _, _, _, _, _, rfl, ?_⟩
  rintro b2 h7 rfl rfl
  have x7 := Ext.push h6 (.cells #[nilS, sl s'.bm 1 s'.cm, nilS, sl s'.ba 2 s'.ca, sl s'.bt 2 s'.ct, nilS, .string (nm k), nilS, nilS, vI 200, vI 0, nilS] 144)
  have d7 := push_last (h := h6) (o := .cells #[nilS, sl s'.bm 1 s'.cm, nilS, sl s'.ba 2 s'.ca, sl s'.bt 2 s'.ct, nilS, .string (nm k), nilS, nilS, vI 200, vI 0, nilS] 144)
  have x07 := (x05.trans x6).trans x7
  refine ⟨_, _, _, _, _, _, _, _, _, _, _, _, _, _, _, _, _, _, cellsAt_all ((((x2.trans x3).trans x5).trans (x6.trans x7)).at c0), (widths_c (S.ext x07) k).mono ?_⟩
  rintro en h8 ⟨bw, cw, gw, x8, ow, rfl⟩
  have d8 := x8.at d7
  have hz7 : h6.size < (h6.push (.cells #[nilS, sl s'.bm 1 s'.cm, nilS, sl s'.ba 2 s'.ca, sl s'.bt 2 s'.ct, nilS, .string (nm k), nilS, nilS, vI 200, vI 0, nilS] 144)).size := by simp
  refine ⟨_, _, _, _, rfl, rfl, wrAt_of d8 (by simp) (.inl (Nat.zero_le _)), ?_⟩
  intro h9 hh9
  have d9 : h9[h6.size]? = some (.cells #[nilS, sl s'.bm 1 s'.cm, nilS, sl s'.ba 2 s'.ca, sl s'.bt 2 s'.ct, nilS, .string (nm k), nilS, sl bw 1 cw, vI 200, vI 0, nilS] 144) := by rw [hh9]; exact setsH_at d8
  have x9 : Ext h6 h9 := by rw [hh9]; exact (x7.trans x8).sets (Nat.le_refl _) _
  have w9 : cellsAt h9 bw 0 [vI w] := cells_off (fun q hq => by rw [hh9]; exact setsH_ne hq) ow.cellsA (by omega)
  clear hh9
  refine ⟨_, _, _, cellsAt_one (cellH_at ((x6.trans x9).at c5)), cntI 1 fun i q => Ext h6 q ∧ cellsAt q bw 0 [vI w] ∧ (i = 0 → q[h6.size]? = some (.cells #[nilS, sl s'.bm 1 s'.cm, nilS, sl s'.ba 2 s'.ca, sl s'.bt 2 s'.ct, nilS, .string (nm k), nilS, sl bw 1 cw, vI 200, vI 0, nilS] 144)) ∧
    (i = 1 → ∃ kb kc, cellsAt q kb 0 [vI (kd k)] ∧ q[h6.size]? = some (.cells #[nilS, sl s'.bm 1 s'.cm, nilS, sl s'.ba 2 s'.ca, sl s'.bt 2 s'.ct, nilS, .string (nm k), sl kb 1 kc, sl bw 1 cw, vI 200, vI 0, nilS] 144)), cntM 1, cnt_0 ⟨x9, w9, fun _ => d9, by simp⟩, ?_⟩
  rintro y h10 ⟨i, hi, hv, x10, w10, d10, e10⟩
  cases hv
  refine ⟨fun hlt => ?_, fun hge => ?_⟩
  · have hin := cnt_lt hlt
    obtain rfl : i = 0 := by omega
    have d10 := d10 rfl
    refine ⟨bk, 0, rfl, by decide, by decide, _, _, _, (x6.trans x10).cells hk5, ?_⟩
    rintro b4 h11 rfl rfl
    have x11 := Ext.push h10 (.cells zK 94)
    refine ⟨info94, stoT (n := 3) x11 (Nat.le_refl _) push_last rfl zK_size (by simp [Value.oneCell']) fun h12 x12 z12 c12 k12 => ?_⟩
    have d12 := x12.at d10
    have w12 := x12.cells w10
    refine ⟨fun q => Ext h12 q, Ext.refl _, _, _, _, fun q xq => cellsAt_one (cellH_at (xq.at d12)), _, cellsAt_one (cellH_at c12), ?_⟩
    refine semH_pushC row76 (Own.nil h12 h12.size 3 1) (vs := [vI (kd k)]) (m := 1) rfl rfl (by simp) (by simp) (by simp [Value.oneCell']) (by decide) (by decide) (Nat.le_refl _) (fun q xq => xq) (fun q gq => ⟨gq.size, fun j hj => gq.block j hj (by simp [Value.ownBlock])⟩) fun p' c' h13 o13 g13 _ _ => ?_
    have x13 : Ext h12 h13 := ⟨g13.size, fun j hj => g13.block j hj (by simp [Value.ownBlock])⟩
    obtain ⟨kb, rfl⟩ : ∃ kb, p' = some ⟨kb, 0, none⟩ := by
      rcases o13.2 with ⟨_, hh⟩ | ⟨g, cap, cur, hv, _⟩
      · cases hh
      · cases hv; exact ⟨g, rfl⟩
    have d13 := x13.at d12
    refine ⟨rfl, wrAt_of d13 (by simp) (.inl (Nat.zero_le _)), ?_⟩
    intro h14 hh14
    have d14 : h14[h6.size]? = some (.cells #[nilS, sl s'.bm 1 s'.cm, nilS, sl s'.ba 2 s'.ca, sl s'.bt 2 s'.ct, nilS, .string (nm k), sl kb 1 c', sl bw 1 cw, vI 200, vI 0, nilS] 144) := by rw [hh14]; exact setsH_at d13
    have x14 : Ext h6 h14 := by rw [hh14]; exact ((x10.trans x12).trans x13).sets (Nat.le_refl _) _
    have k14 : ∀ q, q ≠ h6.size → h14[q]? = h13[q]? := fun q hq => by rw [hh14]; exact setsH_ne hq
    clear hh14
    have hkb := o13.le1.1
    have hlt12 := (Array.getElem?_eq_some_iff.1 d12).1
    exact cnt_next (n := 1) (i := 0) (by decide) (by decide) ⟨x14, cells_off k14 (x13.cells w12) (by omega), by simp, fun _ => ⟨kb, c', cells_off k14 o13.cellsA (by omega), d14⟩⟩
  · obtain rfl := cnt_ge hi hge
    obtain ⟨kb, kc, hkb, hd⟩ := e10 rfl
    exact ⟨h6.size, ⟨s', kb, kc, bw, cw⟩, (x05.trans x6).trans x10, (x05.trans x6).size, ⟨S6.ext x10, hkb, w10⟩, hd, rfl⟩
end
end Go.Vc
