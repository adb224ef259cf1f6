/- TopLongest: pick, twice, bits, call. -/
import Derived.Test.YtamhpfdcnfgngaaGreatTnH
set_option maxRecDepth 10000
namespace Go.Vc
open Go Go.Proofs Go.MapKept

section
variable {h : Hp} {w : Nat}

theorem pick_c (c : Int) (n : Nat) (h1 : -9223372036854775808 ≤ c) (h2 : c < 9223372036854775808) (hn : 0 < n) : CallsH Tryz.prog 4 #[.int .i64 c, vI n] h fun e h' => h' = h ∧ ∃ m : Nat, m < n ∧ e = .returned (vI m) := by
  have key : ∀ x : Int, 0 ≤ x → ∃ m : Nat, m < n ∧ (Value.int .i64 (Int.tmod x (n : Int))) = vI m := fun x hx => by
    obtain ⟨y, rfl⟩ := Int.eq_ofNat_of_zero_le hx
    refine ⟨y % n, Nat.mod_lt _ hn, ?_⟩
    rw [← Int.ofNat_tmod]
  refine V4 _ _ h _ ⟨fun hc => ?_, fun hc => ?_⟩
  · have hc := of_decide_eq_true hc
    refine ⟨c + 1, by rw [IntKind.wrap_i64]; omega, -(c + 1), by rw [IntKind.wrap_i64]; omega, by omega, _, rfl, rfl, ?_⟩
    obtain ⟨m, h3, h4⟩ := key (-(c + 1)) (by omega)
    exact ⟨m, h3, by rw [h4]⟩
  · have hc := of_decide_eq_false hc
    refine ⟨by omega, _, rfl, rfl, ?_⟩
    obtain ⟨m, h3, h4⟩ := key c (by omega)
    exact ⟨m, h3, by rw [h4]⟩

theorem z36_size : (zeros Tryz.prog 36).size = 6 := by kernel_rfl
theorem info87 : ∃ i z, Tryz.prog.info? 87 = some i ∧ i.zero = some z := by
  have h : (Tryz.prog.info? 87).bind (·.zero) = some (.agg #[.string ⟨#[]⟩, .string ⟨#[]⟩]) := by kernel_rfl
  obtain ⟨i, h1, h2⟩ := Option.bind_eq_some_iff.1 h
  exact ⟨i, _, h1, h2⟩
theorem z87_size : (zeros Tryz.prog 87).size = 2 := by kernel_rfl
theorem z92_size : (zeros Tryz.prog 92).size = 3 := by kernel_rfl
theorem info48 : ∃ i z, Tryz.prog.info? 48 = some i ∧ i.zero = some z := by
  have h : (Tryz.prog.info? 48).bind (·.zero) = some (.agg #[.string ⟨#[]⟩, nilS]) := by kernel_rfl
  obtain ⟨i, h1, h2⟩ := Option.bind_eq_some_iff.1 h
  exact ⟨i, _, h1, h2⟩
theorem z48_size : (zeros Tryz.prog 48).size = 2 := by kernel_rfl
theorem info59 : ∃ i z, Tryz.prog.info? 59 = some i ∧ i.zero = some z := by
  have h : (Tryz.prog.info? 59).bind (·.zero) = some (.agg #[.string ⟨#[]⟩, .bool false, nilS, .int .i64 0, .string ⟨#[]⟩, nilS, .string ⟨#[]⟩, nilS]) := by kernel_rfl
  obtain ⟨i, h1, h2⟩ := Option.bind_eq_some_iff.1 h
  exact ⟨i, _, h1, h2⟩
theorem z59_size : (zeros Tryz.prog 59).size = 8 := by kernel_rfl

theorem layN {h : Hp} {t : TypeId} {n : Nat} (hi : ∃ i z, Tryz.prog.info? t = some i ∧ i.zero = some z) (hz : (zeros Tryz.prog t).size = n) {vs : List Value} (hl : vs.length = n) (h1 : ∀ v ∈ vs, v.oneCell' = true) {K : Nat → Hp → Prop}
    (hK : ∀ h', Ext h h' → h'[h.size]? = some (.cells vs.toArray t) → K h.size h') :
    ∀ b hp, b = Array.size h → hp = Array.push h (.cells (zeros Tryz.prog t) t) → (∃ i z, Tryz.prog.info? t = some i ∧ i.zero = some z) ∧ List.length vs = n ∧ (∀ c ∈ vs, c.oneCell' = true) ∧ wrAt hp b 0 n ∧ ∀ hp1, hp1 = setsH hp b 0 vs → K b hp1 := by
  rintro b hp rfl rfl
  exact ⟨hi, stoT (n := n) (Ext.push h _) (Nat.le_refl _) push_last hl hz h1 fun h' x _ c _ => hK h' x c⟩

theorem twice_c (h1 : 1 ≤ w) (h2 : w ≤ 128) : CallsH Tryz.prog 6 #[vI w] h fun e h' => ∃ s, Ext h h' ∧ Sch h' w s ∧ e = .returned s.val := by
  refine V6 _ h _ ?_
  rintro b0 q0 rfl rfl
  refine ⟨info36, ?_⟩
  have x0 := Ext.push h (.cells (zeros Tryz.prog 36) 36)
  have c0 := push_last (h := h) (o := .cells (zeros Tryz.prog 36) 36)
  generalize h.push (.cells (zeros Tryz.prog 36) 36) = q0 at *
  refine layN info87 z87_size rfl (by simp [Value.oneCell']) fun q1 x1 c1 => ?_
  refine semH_buildS row30.ht (by decide) (buildS_hi row30) (rows := [[.string sPort, vI 64]]) (by simp) rfl rfl (by simp) (by simp) ?_
  have x2 := Ext.push q1 (.cells ([[.string sPort, vI 64]] : List (List Value)).flatten.toArray 89)
  have c2 := push_last (h := q1) (o := .cells ([[.string sPort, vI 64]] : List (List Value)).flatten.toArray 89)
  generalize hq2 : q1.push (.cells ([[.string sPort, vI 64]] : List (List Value)).flatten.toArray 89) = q2 at *
  generalize hbp : q1.size = bp at *
  refine ⟨_, _, _, rfl, ?_⟩
  refine layN info92 z92_size rfl (by simp [Value.oneCell']) fun q3 x3 c3 => ?_
  generalize hb3 : q2.size = b3 at *
  refine layN info92 z92_size rfl (by simp [Value.oneCell']) fun q4 x4 c4 => ?_
  generalize hb4 : q3.size = b4 at *
  refine semH_build row71 (vs := [.string sOut, .string sNone]) rfl rfl (by simp) (by simp) (by simp [Value.oneCell']) ?_
  have x5 := Ext.push q4 (.cells ([.string sOut, .string sNone] : List Value).toArray 9)
  have c5 := push_last (h := q4) (o := .cells ([.string sOut, .string sNone] : List Value).toArray 9)
  generalize hq5 : q4.push (.cells ([.string sOut, .string sNone] : List Value).toArray 9) = q5 at *
  generalize hbn : q4.size = bn at *
  refine ⟨_, _, _, rfl, ?_⟩
  refine layN info48 z48_size rfl (by simp [Value.oneCell']) fun q6 x6 c6 => ?_
  generalize hb6 : q5.size = b6 at *
  have c16 := (x2.trans (x3.trans (x4.trans (x5.trans x6)))).at c1
  refine ⟨_, _, cellsAt_all c16, ?_⟩
  refine semH_buildS row70.ht (by decide) (buildS_hi row70) (rows := [[.string sMeta, .string sTo, vI 2]]) (by simp) rfl rfl (by simp) (by simp) ?_
  have x7 := Ext.push q6 (.cells ([[.string sMeta, .string sTo, vI 2]] : List (List Value)).flatten.toArray 94)
  have c7 := push_last (h := q6) (o := .cells ([[.string sMeta, .string sTo, vI 2]] : List (List Value)).flatten.toArray 94)
  generalize hq7 : q6.push (.cells ([[.string sMeta, .string sTo, vI 2]] : List (List Value)).flatten.toArray 94) = q7 at *
  generalize hbk : q6.size = bk at *
  refine ⟨_, _, _, rfl, _, _, _, _, cellsAt_all (x7.at c6), ?_⟩
  refine layN info73 zT_size rfl (by simp [Value.oneCell']) fun q8 x8 c8 => ?_
  generalize hb8 : q7.size = b8 at *
  refine ⟨_, _, cellsAt_all ((x7.trans x8).at c16), ?_⟩
  refine semH_buildS row70.ht (by decide) (buildS_hi row70) (rows := [[.string sMeta, .string sTo, vI 3]]) (by simp) rfl rfl (by simp) (by simp) ?_
  have x9 := Ext.push q8 (.cells ([[.string sMeta, .string sTo, vI 3]] : List (List Value)).flatten.toArray 94)
  have c9 := push_last (h := q8) (o := .cells ([[.string sMeta, .string sTo, vI 3]] : List (List Value)).flatten.toArray 94)
  generalize hq9 : q8.push (.cells ([[.string sMeta, .string sTo, vI 3]] : List (List Value)).flatten.toArray 94) = q9 at *
  generalize hbk3 : q8.size = bk3 at *
  refine ⟨_, _, _, rfl, _, _, _, _, cellsAt_all ((x7.trans (x8.trans x9)).at c6), ?_⟩
  refine layN info73 zT_size rfl (by simp [Value.oneCell']) fun q10 x10 c10 => ?_
  generalize hb10 : q9.size = b10 at *
  refine semH_buildS row30.ht (by decide) (buildS_hi row30) (rows := [[.string sTo, vI w]]) (by simp) rfl rfl (by simp) (by simp) ?_
  have x11 := Ext.push q10 (.cells ([[.string sTo, vI w]] : List (List Value)).flatten.toArray 89)
  have c11 := push_last (h := q10) (o := .cells ([[.string sTo, vI w]] : List (List Value)).flatten.toArray 89)
  generalize hq11 : q10.push (.cells ([[.string sTo, vI w]] : List (List Value)).flatten.toArray 89) = q11 at *
  generalize hbm : q10.size = bm at *
  have x411 := x5.trans (x6.trans (x7.trans (x8.trans (x9.trans (x10.trans x11)))))
  refine ⟨_, _, _, rfl, _, _, _, _, _, _, _, cellsAt_all ((x4.trans x411).at c3), _, _, _, _, _, _, _, cellsAt_all (x411.at c4), ?_⟩
  refine semH_buildS row32.ht (by decide) (buildS_hi row32) (rows := [[.string sOut, sl bp 1 1, nilS], [.string sNone, nilS, nilS]]) (by simp) rfl rfl (by simp) (by simp) ?_
  have x12 := Ext.push q11 (.cells ([[.string sOut, sl bp 1 1, nilS], [.string sNone, nilS, nilS]] : List (List Value)).flatten.toArray 92)
  have c12 := push_last (h := q11) (o := .cells ([[.string sOut, sl bp 1 1, nilS], [.string sNone, nilS, nilS]] : List (List Value)).flatten.toArray 92)
  generalize hq12 : q11.push (.cells ([[.string sOut, sl bp 1 1, nilS], [.string sNone, nilS, nilS]] : List (List Value)).flatten.toArray 92) = q12 at *
  generalize hba : q11.size = ba at *
  have x812 := x9.trans (x10.trans (x11.trans x12))
  have x1012 := x11.trans x12
  refine ⟨_, _, _, rfl, _, _, _, _, _, _, _, _, _, _, _, _, _, cellsAt_all (x812.at c8), _, _, _, _, _, _, _, _, _, _, _, _, _, cellsAt_all (x1012.at c10), ?_⟩
  refine semH_buildS row33.ht (by decide) (buildS_hi row33) (rows := [[.string sLong, sl bk 1 1, sl bn 2 2, vI 200, .string sNone, nilS, .bool false], [.string sHigh, sl bk3 1 1, sl bn 2 2, vI 200, .string sNone, nilS, .bool false]]) (by simp) rfl rfl (by simp) (by simp) ?_
  have x13 := Ext.push q12 (.cells ([[.string sLong, sl bk 1 1, sl bn 2 2, vI 200, .string sNone, nilS, .bool false], [.string sHigh, sl bk3 1 1, sl bn 2 2, vI 200, .string sNone, nilS, .bool false]] : List (List Value)).flatten.toArray 73)
  have c13 := push_last (h := q12) (o := .cells ([[.string sLong, sl bk 1 1, sl bn 2 2, vI 200, .string sNone, nilS, .bool false], [.string sHigh, sl bk3 1 1, sl bn 2 2, vI 200, .string sNone, nilS, .bool false]] : List (List Value)).flatten.toArray 73)
  generalize hq13 : q12.push (.cells ([[.string sLong, sl bk 1 1, sl bn 2 2, vI 200, .string sNone, nilS, .bool false], [.string sHigh, sl bk3 1 1, sl bn 2 2, vI 200, .string sNone, nilS, .bool false]] : List (List Value)).flatten.toArray 73) = q13 at *
  generalize hbt : q12.size = bt at *
  have x213 := x3.trans (x4.trans (x411.trans (x12.trans x13)))
  have x013 := x1.trans (x2.trans x213)
  have l0 := (Array.getElem?_eq_some_iff.1 c0).1
  have z1 := x1.size
  have z2 := x2.size
  have z23 := (x3.trans x4).size
  have z5 := (x5.trans x6).size
  have z7 := (x7.trans x8).size
  have z9 := (x9.trans x10).size
  have z11 := x11.size
  have z12 := x12.size
  refine ⟨_, _, _, rfl, stoT (n := 6) (x0.trans x013) (Nat.le_refl _) (x013.at c0) rfl z36_size (by simp [Value.oneCell']) fun q xq zq cq kq => ⟨_, _, _, _, _, _, _, _, _, _, _, _, _, _, _, _, _, _, cellsAt_all cq, ?_⟩⟩
  refine ⟨⟨bm, 1, ba, 2, bp, 1, bt, 2, fun k => cond k bk3 bk, fun _ => 1, fun _ => bn, fun _ => 2⟩, xq, ⟨?_, ?_, ?_, ?_, fun k => ?_, fun k => ?_, h1, h2⟩, rfl⟩
  · exact cellsAt_all (vs := [.string sTo, vI w]) ((kq bm (by omega)).trans ((x12.trans x13).at c11))
  · exact cellsAt_all (vs := [.string sOut, sl bp 1 1, nilS, .string sNone, nilS, nilS]) ((kq ba (by omega)).trans (x13.at c12))
  · exact cellsAt_all (vs := [.string sPort, vI 64]) ((kq bp (by omega)).trans (x213.at c2))
  · exact cellsAt_all (vs := [.string sLong, sl bk 1 1, sl bn 2 2, vI 200, .string sNone, nilS, .bool false, .string sHigh, sl bk3 1 1, sl bn 2 2, vI 200, .string sNone, nilS, .bool false]) ((kq bt (by omega)).trans c13)
  · cases k
    · exact cellsAt_all (vs := [.string sMeta, .string sTo, vI 2]) ((kq bk (by omega)).trans ((x8.trans (x9.trans (x10.trans (x11.trans (x12.trans x13))))).at c7))
    · exact cellsAt_all (vs := [.string sMeta, .string sTo, vI 3]) ((kq bk3 (by omega)).trans ((x10.trans (x11.trans (x12.trans x13))).at c9))
  · exact cellsAt_all (vs := [.string sOut, .string sNone]) ((kq bn (by omega)).trans ((x6.trans (x7.trans (x8.trans (x9.trans (x10.trans (x11.trans (x12.trans x13))))))).at c5))

theorem bits_c {a b ac bc : Nat} {y z : BitVec 64} (ha : cellsAt h a 0 [.int .u64 0, vW y]) (hb : cellsAt h b 0 [.int .u64 0, vW z]) : CallsH Tryz.prog 23 #[sl a 1 ac, sl b 1 bc] h fun e h' => h' = h ∧ e = .returned (.bool (decide (y = z))) := by
  have e0 : ∀ y : BitVec 64, ∃ x : B128, vB x = .agg #[.int .u64 0, vW y] := fun y => ⟨mkB 0 y, by rw [vB, hi_mk, lo_mk]; rfl⟩
  obtain ⟨u, hu⟩ := e0 y
  obtain ⟨v, hv⟩ := e0 z
  have huv : decide (u = v) = decide (y = z) := by
    apply decide_eq_decide.2
    constructor
    · rintro rfl
      rw [hu] at hv
      simp only [Value.agg.injEq, Array.mk.injEq, List.cons.injEq, Value.int.injEq, true_and, and_true] at hv
      exact BitVec.eq_of_toNat_eq (Int.ofNat.inj hv)
    · rintro rfl
      rw [← hv] at hu
      simp only [vB, Value.agg.injEq, Array.mk.injEq, List.cons.injEq, Value.int.injEq, true_and, and_true] at hu
      exact bits_eq (BitVec.eq_of_toNat_eq (Int.ofNat.inj hu.1)) (BitVec.eq_of_toNat_eq (Int.ofNat.inj hu.2))
  have hq := eqB u v
  rw [hu, hv, huv] at hq
  refine V23 _ _ _ _ _ _ h _ ⟨fun hf => absurd hf (by decide), fun _ => ⟨cntI 1 fun i q => q = h ∧ (i = 1 → decide (y = z) = true), cntM 1, cnt_0 ⟨rfl, by simp⟩, ?_⟩⟩
  rintro x q ⟨i, hi, hvs, rfl, hf⟩
  cases hvs
  refine ⟨fun hlt => ?_, fun hge => ?_⟩
  · have hin := cnt_lt hlt
    obtain rfl : i = 0 := by omega
    refine ⟨a, 0, rfl, by decide, by decide, _, _, ha, b, 0, rfl, by decide, by decide, _, _, hb, _, hq, fun hb => ⟨rfl, ?_⟩, fun hb => cnt_next (n := 1) (i := 0) (by decide) (by decide) ⟨rfl, fun _ => ?_⟩⟩
    · rw [Bool.not_eq_true'] at hb; rw [hb]
    · rwa [Bool.not_eq_false'] at hb
  · obtain rfl := cnt_ge hi hge
    exact ⟨rfl, by rw [hf rfl]⟩
theorem bits0_c : CallsH Tryz.prog 23 #[nilS, nilS] h fun e h' => h' = h ∧ e = .returned (.bool true) := by
  refine V23 _ _ _ _ _ _ h _ ⟨fun hf => absurd hf (by decide), fun _ => ⟨fun vs q => vs = [vI 0] ∧ q = h, fun _ _ => 0, ⟨rfl, rfl⟩, ?_⟩⟩
  rintro x q ⟨hvs, rfl⟩
  cases hvs
  exact ⟨fun hf => absurd hf (by decide), fun _ => ⟨rfl, rfl⟩⟩

inductive CallAt (h : Hp) : Option (BitVec 64) → Value → Prop
  | none : CallAt h none (.agg #[.string sNone, nilS])
  | some {b c : Nat} {y : BitVec 64} (hc : cellsAt h b 0 [.int .u64 0, vW y]) : CallAt h (some y) (.agg #[.string sOut, sl b 1 c])

theorem callEq_c {y z : Option (BitVec 64)} {u v : Value} (hu : CallAt h y u) (hv : CallAt h z v) (hyz : y = z) : CallsH Tryz.prog 12 #[u, v] h (RetX (.bool true) h) := by
  subst hyz
  cases hu with
  | none =>
    cases hv
    refine V12 _ _ _ _ _ _ _ _ h _ ?_
    rintro b0 h0 rfl rfl b1 h1 hb1 hh1
    have x1 : Ext h h1 := by rw [hh1]; exact (Ext.push _ _).box _
    have c0 : h1[h.size]? = some (.cells #[.string sNone, nilS] 48) := by rw [hh1]; exact (Ext.push _ _).at push_last
    have c1 : h1[b1]? = some (.cells #[.string sNone, nilS] 48) := by rw [hh1, hb1]; exact push_last
    clear hh1 hb1
    refine ⟨_, _, _, cellsAt_one (cellH_at c0), _, _, _, cellsAt_one (cellH_at c1), bits0_c.mono ?_⟩
    rintro en h2 ⟨rfl, rfl⟩
    exact ⟨_, rfl, true, ⟨fun _ => ⟨_, cellsAt_one (cellH_at c0), _, cellsAt_one (cellH_at c1), rfl, by decide⟩, (fun hf => by cases hf)⟩, rfl, x1⟩
  | @some b c y ha =>
    cases hv with
    | @some b' c' _ hb =>
      refine V12 _ _ _ _ _ _ _ _ h _ ?_
      rintro b0 h0 rfl rfl b1 h1 hb1 hh1
      have x1 : Ext h h1 := by rw [hh1]; exact (Ext.push _ _).box _
      have c0 : h1[h.size]? = some (.cells #[.string sOut, sl b 1 c] 48) := by rw [hh1]; exact (Ext.push _ _).at push_last
      have c1 : h1[b1]? = some (.cells #[.string sOut, sl b' 1 c'] 48) := by rw [hh1, hb1]; exact push_last
      clear hh1 hb1
      refine ⟨_, _, _, cellsAt_one (cellH_at c0), _, _, _, cellsAt_one (cellH_at c1), (bits_c (x1.cells ha) (x1.cells hb)).mono ?_⟩
      rintro en h2 ⟨rfl, rfl⟩
      exact ⟨_, rfl, true, ⟨fun _ => ⟨_, cellsAt_one (cellH_at c0), _, cellsAt_one (cellH_at c1), rfl, by decide⟩, fun hf => by rw [decide_eq_true rfl] at hf; cases hf⟩, rfl, x1⟩
end
end Go.Vc
