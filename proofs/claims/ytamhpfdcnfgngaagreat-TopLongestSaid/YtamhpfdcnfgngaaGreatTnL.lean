/- TopLongest: the law, walked. -/
import Derived.Test.YtamhpfdcnfgngaaGreatTnK
set_option maxRecDepth 10000
namespace Go.Vc
open Go Go.Proofs Go.MapKept

section
variable {h : Hp} {w : Nat} {X : TB}

theorem SetIs.uniq {Z : Nat → Prop} {m : Bool → Nat} {E : Bool → Nat → B128 → BitVec 64 → Prop} (D : SetIs h w X Z m E) {k : Bool} {n : Nat} {v : B128} {y y' : BitVec 64} (h1 : E k n v y) (h2 : E k n v y') : y = y' := by
  obtain ⟨N, gv, gs, d, _, _, hE⟩ := D
  obtain ⟨g, hg, hn, p, hp, hpv, rfl⟩ := (hE k n v y).2 h1
  obtain ⟨g', hg', hn', p', hp', hpv', rfl⟩ := (hE k n v y').2 h2
  have e1 := findG_mem (d.good k).1.nd hg hn
  have e2 := findG_mem (d.good k).1.nd hg' hn'
  rw [e1] at e2
  cases e2
  obtain ⟨j, hj⟩ := List.getElem?_of_mem hp
  have hj' : g.rows[j]? = some (v, p.2) := by rw [hj, ← hpv]
  have hp2 : (v, p'.2) ∈ g.rows := by rw [← hpv']; exact hp'
  have := row_uniq ((d.lst k).gp g hg).nd hj' hp2
  rw [this]

theorem and_msk (x : B128) (w n : Nat) : (x &&& msk w n) &&& msk w n = x &&& msk w n := by rw [BitVec.and_assoc, BitVec.and_self]
theorem and_ones (x : B128) (w : Nat) : (x &&& onesB w) &&& onesB w = x &&& onesB w := by rw [BitVec.and_assoc, BitVec.and_self]

theorem topLongest_c {width : Int} (b1w : -9223372036854775808 ≤ width) (b2w : width < 9223372036854775808) {rp : Option Addr} {rn rc : Nat} {rs : List Ro} (S : SegS h rp rn 5 (rs.map Ro.cells)) (hlen : ∀ r ∈ rs, -9223372036854775808 ≤ r.len ∧ r.len < 9223372036854775808)
    {ap : Option Addr} {an ac : Nat} {xs : List B128} (SA : SegS h ap an 2 (xs.map bitsL)) : CallsH Tryz.prog 3 #[.int .i64 width, .slice rp rn rc, .slice ap an ac] h (RetX (.bool true) h) := by
  have hrl : rs.length = rn := by have := S.1; simpa using this
  have hxl : xs.length = an := by have := SA.1; simpa using this
  refine V3 _ _ _ _ _ _ _ h _ ((pick_c width 128 b1w b2w (by decide)).mono ?_)
  rintro en h0 ⟨rfl, m0, hm0, rfl⟩
  have hww : IntKind.i64.wrap ((1 : Int) + (m0 : Int)) = ((m0 + 1 : Nat) : Int) := by rw [IntKind.wrap_i64]; omega
  refine ⟨_, rfl, _, hww, ?_⟩
  generalize hw : m0 + 1 = w
  have h1w : 1 ≤ w := by omega
  have h2w : w ≤ 128 := by omega
  refine (twice_c h1w h2w).mono ?_
  rintro en h1 ⟨s, x1, S1, rfl⟩
  refine ⟨_, _, _, _, _, _, _, _, _, _, _, _, _, _, _, _, _, _, rfl, (New_c S1).mono ?_⟩
  rintro en h2 ⟨x2, X, D2, hbl, rfl⟩
  refine ⟨_, _, rfl, fun _ q => q = h2, ⟨fun hf => absurd hf (by decide), fun _ => ⟨false, eqv_ptr (e := 69) (by kernel_rfl) _, (fun hf => by cases hf), fun _ => rfl⟩⟩, ?_⟩
  rintro h3 rfl
  have x03 := x1.trans x2
  have D3 : SetIs h3 w X (fun q => q = (X.o false).bl ∨ q = (X.o true).bl) (fun _ => 0) (fun _ _ _ _ => False) := by
    refine ⟨_, _, _, D2, fun k => Nat.le_refl _, fun k q hq => ?_, fun k n v y => ⟨fun ⟨g, hg, _⟩ => (by cases hg), fun hf => hf.elim⟩⟩
    rcases hq with rfl | hq | ⟨g, hg, _⟩
    · cases k
      · exact .inl rfl
      · exact .inr rfl
    · cases hq
    · cases hg
  have I0 : Inv1 h0 w X rn [vI 0] h3 := by
    refine ⟨0, _, _, _, rfl, Nat.zero_le _, Nat.zero_le _, x03, D3, fun _ => Nat.le_refl _, fun b hb => ?_, fun n v y => Iff.rfl⟩
    have := x1.size
    rcases hb with rfl | rfl
    · exact ⟨by have := hbl false; omega, (D2.lst false).foot_lt (.inl rfl)⟩
    · exact ⟨by have := hbl true; omega, (D2.lst true).foot_lt (.inl rfl)⟩
  refine ⟨fun _ q => ∃ vs, Inv1 h0 w X rn vs q, ⟨Inv1 h0 w X rn, fun vs _ => 150 - (numAt vs 0).toNat, I0, ?_⟩, ?_⟩
  · rintro i_ h4 ⟨i, Z, m, E, hvs, hi, hi150, x4, D, hm, hZ, sym⟩
    cases hvs
    have I4 : Inv1 h0 w X rn [vI i] h4 := ⟨i, Z, m, E, rfl, hi, hi150, x4, D, hm, hZ, sym⟩
    refine ⟨fun _ q => q = h4 ∧ i < rn ∧ i < 150, ⟨fun hlt => ⟨fun hlt2 => ⟨rfl, cnt_lt hlt, by have := of_decide_eq_true hlt2; omega⟩, fun _ => ⟨_, I4⟩⟩, fun _ => ⟨_, I4⟩⟩, ?_⟩
    rintro h5 ⟨rfl, hirn, hi2⟩
    obtain ⟨r, hr⟩ : ∃ r, rs[i]? = some r := ⟨rs[i], List.getElem?_eq_getElem (by omega)⟩
    obtain ⟨b, o, e1, e2, e3, hrow⟩ := S.get (i := i) (by simpa [hrl] using hirn)
    have hri : (rs.map Ro.cells)[i]'(by simpa [hrl] using hirn) = r.cells := by rw [List.getElem_map, (List.getElem?_eq_some_iff.1 hr).2]
    rw [hri] at hrow
    obtain ⟨bl1, bl2⟩ := hlen r (List.mem_of_getElem? hr)
    refine ⟨b, o, e1, e2, e3, _, x4.cells (hrow 2 _ rfl), ((w + 1 : Nat) : Int), incI (by omega), (pick_c r.len (w + 1) bl1 bl2 (by omega)).mono ?_⟩
    rintro en h6 ⟨rfl, n, hn, rfl⟩
    have hn : n ≤ w := by omega
    refine ⟨_, rfl, (mask_c w n h1w h2w hn).mono ?_⟩
    rintro en h7 ⟨rfl, x7⟩
    refine ⟨_, _, _, rfl, ?_⟩
    refine layN info40 zB_size rfl (by simp [Value.oneCell']) fun q9 x9 c9 => ?_
    generalize hb1 : h7.size = b1 at *
    have x49 := x7.trans x9
    have x09 := x4.trans x49
    have hvv := and_msk (r.val &&& onesB w) w n
    have tl : ∀ (b3 : Nat) (q13 : Hp), Ext q9 q13 → q13[b3]? = some (.cells (bitsL ((r.val &&& onesB w) &&& msk w n)).toArray 40) → TailV rp rn i n 0 (some ⟨X.t, 0, none⟩) b1 b3 (RetX (.bool true) h0) (Inv1 h0 w X rn) (fun vs _ => 150 - (numAt vs 0).toNat) h6 q13 :=
      fun b3 q13 x13 c13 => tail_ok S hirn hi2 x4 D hm hZ sym (x49.trans x13) (x13.at c9) c13 hn h2w hvv
    have rdv : ∀ q, Ext q9 q → cellsAt q b ((o + Int.toNat (i : Int) * 5) + 0) [vW (hiW r.val), vW (loW r.val)] := fun q xq => ⟨((x09.trans xq).cells (hrow 0 _ rfl)).1, ((x09.trans xq).cells (hrow 1 _ rfl)).1, trivial⟩
    have rdm : ∀ q, Ext q9 q → cellsAt q b1 0 [vW (hiW (msk w n)), vW (loW (msk w n))] := fun q xq => cellsAt_all (vs := bitsL (msk w n)) (xq.at c9)
    refine ⟨?_, ?_, ?_⟩
    · refine ⟨fun q => Ext q9 q, Ext.refl _, b, o, e1, e2, e3, _, _, rdv, (cut_c r.val w h1w h2w).mono ?_⟩
      rintro en q10 ⟨rfl, x10⟩
      refine ⟨_, _, rfl, x10, _, _, rdm, (vand_c (r.val &&& onesB w) (msk w n)).mono ?_⟩
      rintro en q11 ⟨rfl, x11⟩
      refine ⟨_, _, rfl, x10.trans x11, ?_⟩
      rintro b3 q12 rfl rfl
      have x12 := Ext.push q11 (.cells (zeros Tryz.prog 40) 40)
      refine ⟨info40, (x10.trans x11).trans x12, stoT (n := 2) x12 (Nat.le_refl _) push_last rfl zB_size (by simp [Value.oneCell']) fun q13 x13 z13 c13 k13 => ⟨(x10.trans x11).trans x13, tl _ q13 ((x10.trans x11).trans x13) c13⟩⟩
    · refine ⟨fun q => Ext q9 q, Ext.refl _, b, o, e1, e2, e3, _, _, rdv, ?_⟩
      rintro b3 q10 rfl rfl
      have x10 := Ext.push q9 (.cells (zeros Tryz.prog 40) 40)
      have d10 := push_last (h := q9) (o := .cells (zeros Tryz.prog 40) 40)
      refine ⟨info40, x10, (cut_c r.val w h1w h2w).mono ?_⟩
      rintro en q11 ⟨rfl, x11⟩
      refine ⟨_, _, rfl, x10.trans x11, _, _, rdm, (vand_c (r.val &&& onesB w) (msk w n)).mono ?_⟩
      rintro en q12 ⟨rfl, x12⟩
      have x912 := (x10.trans x11).trans x12
      refine ⟨_, _, rfl, x912, stoT (n := 2) x912 (Nat.le_refl _) ((x11.trans x12).at d10) rfl zB_size (by simp [Value.oneCell']) fun q13 x13 z13 c13 k13 => ⟨x13, tl _ q13 x13 c13⟩⟩
    · refine ⟨fun q => Ext q9 q, Ext.refl _, b, o, e1, e2, e3, _, _, rdv, (cut_c r.val w h1w h2w).mono ?_⟩
      rintro en q10 ⟨rfl, x10⟩
      refine ⟨_, _, rfl, x10, _, _, rdm, ?_⟩
      rintro b3 q11 rfl rfl
      have x11 := Ext.push q10 (.cells (zeros Tryz.prog 40) 40)
      have d11 := push_last (h := q10) (o := .cells (zeros Tryz.prog 40) 40)
      refine ⟨info40, x10.trans x11, (vand_c (r.val &&& onesB w) (msk w n)).mono ?_⟩
      rintro en q12 ⟨rfl, x12⟩
      have x1012 := x11.trans x12
      refine ⟨_, _, rfl, x10.trans x1012, stoT (n := 2) x1012 (Nat.le_refl _) (x12.at d11) rfl zB_size (by simp [Value.oneCell']) fun q13 x13 z13 c13 k13 => ⟨x10.trans x13, tl _ q13 (x10.trans x13) c13⟩⟩
  rintro h76 ⟨vs, i0, Z, m, E, _, _, _, x76, D, _, _, sym⟩
  refine ⟨fun vs q => ∃ i, vs = [vI i] ∧ i ≤ an ∧ i ≤ 60 ∧ Ext h76 q, fun vs _ => 60 - (numAt vs 0).toNat, ⟨0, rfl, Nat.zero_le _, Nat.zero_le _, Ext.refl _⟩, ?_⟩
  rintro i_ h77 ⟨i, hvs, hi, hi60, x77⟩
  cases hvs
  have x077 := x76.trans x77
  refine ⟨fun _ q => q = h77 ∧ i < an ∧ i < 60, ⟨fun hlt => ⟨fun hlt2 => ⟨rfl, cnt_lt hlt, by have := of_decide_eq_true hlt2; omega⟩, fun _ => ⟨rfl, x077⟩⟩, fun _ => ⟨rfl, x077⟩⟩, ?_⟩
  rintro h78 ⟨rfl, hian, hi2⟩
  obtain ⟨b, o, e1, e2, e3, hrow⟩ := SA.at (i := i) (by simpa [hxl] using hian)
  have hri : (xs.map bitsL)[i]'(by simpa [hxl] using hian) = bitsL (xs[i]'(by omega)) := by rw [List.getElem_map]
  rw [hri] at hrow
  generalize xs[i]'(by omega) = xa at hrow
  refine ⟨b, o, e1, e2, e3, _, _, x077.cells hrow, (cut_c xa w h1w h2w).mono ?_⟩
  rintro en h79 ⟨rfl, x79⟩
  refine ⟨_, _, rfl, ?_⟩
  refine layN info40 zB_size rfl (by simp [Value.oneCell']) fun q81 x81 c81 => ?_
  generalize hb24 : h79.size = b24 at *
  have hv := and_ones xa w
  generalize xa &&& onesB w = x at *
  refine ⟨_, _, cellsAt_all (vs := bitsL x) c81, ?_⟩
  refine semH_buildS row23.ht (by decide) (buildS_hi row23) (rows := [bitsL x]) (by simp) rfl rfl (by simp) (by simp) ?_
  have x82 := Ext.push q81 (.cells ([bitsL x] : List (List Value)).flatten.toArray 40)
  have c82 := push_last (h := q81) (o := .cells ([bitsL x] : List (List Value)).flatten.toArray 40)
  generalize q81.push (.cells ([bitsL x] : List (List Value)).flatten.toArray 40) = q82 at *
  have x7682 := x77.trans (x79.trans (x81.trans x82))
  have D82 := D.ext x7682
  refine ⟨_, _, _, rfl, (Lookup_c D82 false (cellsAt_all (vs := bitsL x) c82) hv).mono ?_⟩
  rintro en q83 ⟨x83, r1⟩
  have D83 := D82.ext x83
  have nxt : ∀ q91, Ext h76 q91 → ∃ x156_, IntKind.i64.wrap ((i : Int) + (1 : Int)) = x156_ ∧ ((∃ i, [Value.int .i64 x156_] = [vI i] ∧ i ≤ an ∧ i ≤ 60 ∧ Ext h76 q91) ∧ 60 - (numAt [Value.int .i64 x156_] 0).toNat < 60 - (numAt [Value.int .i64 (i : Int)] 0).toNat) := fun q91 xq =>
    ⟨((i + 1 : Nat) : Int), incI (by omega), ⟨i + 1, rfl, hian, hi2, xq⟩, by simp only [numAt]; omega⟩
  have x7683 := x7682.trans x83
  rcases r1 with ⟨rfl, hno1⟩ | ⟨n1, y1, mp1, mc1, ab1, ac1, ab2, ac2, rfl, hn1, hmp1, hab1, hE1, hmax1⟩
  · refine ⟨_, _, _, _, _, _, _, _, _, _, _, _, _, _, _, rfl, ?_⟩
    refine layN info59 z59_size rfl (by simp [Value.oneCell']) fun q85 x85 c85 => ?_
    generalize hb25 : q83.size = b25 at *
    refine ⟨_, _, cellsAt_all (vs := bitsL x) ((x82.trans (x83.trans x85)).at c81), ?_⟩
    refine semH_buildS row23.ht (by decide) (buildS_hi row23) (rows := [bitsL x]) (by simp) rfl rfl (by simp) (by simp) ?_
    have x86 := Ext.push q85 (.cells ([bitsL x] : List (List Value)).flatten.toArray 40)
    have c86 := push_last (h := q85) (o := .cells ([bitsL x] : List (List Value)).flatten.toArray 40)
    generalize q85.push (.cells ([bitsL x] : List (List Value)).flatten.toArray 40) = q86 at *
    have D86 := D83.ext (x85.trans x86)
    refine ⟨_, _, _, rfl, (Lookup_c D86 true (cellsAt_all (vs := bitsL x) c86) hv).mono ?_⟩
    rintro en q87 ⟨x87, r2⟩
    rcases r2 with ⟨rfl, hno2⟩ | ⟨n2, y2, mp2, mc2, ab3, ac3, ab4, ac4, rfl, hn2, hmp2, hab2, hE2, hmax2⟩
    · refine ⟨_, _, _, _, _, _, _, _, _, _, _, _, _, _, _, rfl, ?_⟩
      refine layN info59 z59_size rfl (by simp [Value.oneCell']) fun q89 x89 c89 => ?_
      have c859 := (x86.trans (x87.trans x89)).at c85
      refine ⟨_, _, _, _, bits_of c859 rfl rfl, _, _, _, _, bits_of c89 rfl rfl, (callEq_c CallAt.none CallAt.none rfl).mono ?_⟩
      rintro en q90 ⟨rfl, x90⟩
      have x7690 := x7683.trans (x85.trans (x86.trans (x87.trans (x89.trans x90))))
      refine ⟨_, rfl, fun _ q => q = q90, ⟨fun hf => absurd hf (by decide), fun _ => ⟨fun hf => absurd hf (by decide), fun _ => ⟨_, cellsAt_one (cellH_at (x90.at c859)), _, cellsAt_one (cellH_at (x90.at c89)), _, eqv_bool (by kernel_rfl) _ _, (fun hf => by cases hf), fun _ => ⟨(fun hf => by cases hf), fun _ => rfl⟩⟩⟩⟩, ?_⟩
      rintro q91 rfl
      exact ⟨_, cellsAt_one (cellH_at (x90.at c859)), (fun hf => by cases hf), fun _ => nxt _ x7690⟩
    · exact (hno1 n2 y2 ((sym _ _ _).2 hE2)).elim
  · refine ⟨_, _, _, _, _, _, _, _, _, _, _, _, _, _, _, rfl, ?_⟩
    refine layN info59 z59_size rfl (by simp [Value.oneCell']) fun q85 x85 c85 => ?_
    generalize hb25 : q83.size = b25 at *
    refine ⟨_, _, cellsAt_all (vs := bitsL x) ((x82.trans (x83.trans x85)).at c81), ?_⟩
    refine semH_buildS row23.ht (by decide) (buildS_hi row23) (rows := [bitsL x]) (by simp) rfl rfl (by simp) (by simp) ?_
    have x86 := Ext.push q85 (.cells ([bitsL x] : List (List Value)).flatten.toArray 40)
    have c86 := push_last (h := q85) (o := .cells ([bitsL x] : List (List Value)).flatten.toArray 40)
    generalize q85.push (.cells ([bitsL x] : List (List Value)).flatten.toArray 40) = q86 at *
    have D86 := D83.ext (x85.trans x86)
    refine ⟨_, _, _, rfl, (Lookup_c D86 true (cellsAt_all (vs := bitsL x) c86) hv).mono ?_⟩
    rintro en q87 ⟨x87, r2⟩
    rcases r2 with ⟨rfl, hno2⟩ | ⟨n2, y2, mp2, mc2, ab3, ac3, ab4, ac4, rfl, hn2, hmp2, hab2, hE2, hmax2⟩
    · exact (hno2 n1 y1 ((sym _ _ _).1 hE1)).elim
    · obtain rfl : n1 = n2 := Nat.le_antisymm (hmax2 n1 y1 ((sym _ _ _).1 hE1)) (hmax1 n2 y2 ((sym _ _ _).2 hE2))
      obtain rfl : y1 = y2 := D.uniq hE1 ((sym _ _ _).2 hE2)
      refine ⟨_, _, _, _, _, _, _, _, _, _, _, _, _, _, _, rfl, ?_⟩
      refine layN info59 z59_size rfl (by simp [Value.oneCell']) fun q89 x89 c89 => ?_
      have x8589 := x86.trans (x87.trans x89)
      have c859 := x8589.at c85
      refine ⟨_, _, _, _, bits_of c859 rfl rfl, _, _, _, _, bits_of c89 rfl rfl, (callEq_c (CallAt.some ((x85.trans x8589).cells hab1)) (CallAt.some (x89.cells hab2)) rfl).mono ?_⟩
      rintro en q90 ⟨rfl, x90⟩
      have x7690 := x7683.trans (x85.trans (x86.trans (x87.trans (x89.trans x90))))
      have d1 := x90.at c859
      have d2 := x90.at c89
      have m1 := ((x85.trans x8589).trans x90).cells hmp1
      have m2 := (x89.trans x90).cells hmp2
      have m1v : cellsAt q90 mp1 ((0 + Int.toNat (0 : Int) * 5) + 0) (bitsL (x &&& msk w n1)) := ⟨m1.1, m1.2.1, trivial⟩
      have m2v : cellsAt q90 mp2 ((0 + Int.toNat (0 : Int) * 5) + 0) (bitsL (x &&& msk w n1)) := ⟨m2.1, m2.2.1, trivial⟩
      have m1l : cellsAt q90 mp1 ((0 + Int.toNat (0 : Int) * 5) + 4) [vI n1] := ⟨m1.2.2.2.2.1, trivial⟩
      refine ⟨_, rfl, fun _ q => q = q90, ⟨fun hf => absurd hf (by decide), fun _ => ⟨fun hf => absurd hf (by decide), fun _ => ⟨_, cellsAt_one (cellH_at d1), _, cellsAt_one (cellH_at d2), _, eqv_bool (by kernel_rfl) _ _, (fun hf => by cases hf), fun _ => ⟨(fun hf => by cases hf), fun _ => rfl⟩⟩⟩⟩, ?_⟩
      rintro q91 rfl
      refine ⟨_, cellsAt_one (cellH_at d1), fun _ => ?_, (fun hf => by cases hf)⟩
      refine ⟨_, _, _, cellsAt_one (cellH_at d1), fun hf => absurd hf (by decide), fun _ => ⟨_, _, _, cellsAt_one (cellH_at d2), fun hf => absurd hf (by decide), fun _ => ?_⟩⟩
      refine ⟨_, _, _, cellsAt_one (cellH_at d1), mp1, 0, rfl, by decide, by decide, _, _, m1v, _, _, _, cellsAt_one (cellH_at d2), mp2, 0, rfl, by decide, by decide, _, _, m2v, _, eqB _ _, fun hf => by rw [decide_eq_true rfl] at hf; (cases hf), fun _ => ?_⟩
      refine ⟨_, cellsAt_one (cellH_at d2), _, _, _, cellsAt_one (cellH_at d1), mp1, 0, rfl, by decide, by decide, _, m1l, ((n1 + 1 : Nat) : Int), incI (by omega), fun hf => ?_, fun _ => nxt _ x7690⟩
      exact absurd rfl (of_decide_eq_true hf)
end
end Go.Vc
