/- TopLongest: a list, what it asks of its entries. -/
import Derived.Test.YtamhpfdcnfgngaaGreatTmL
set_option maxRecDepth 10000
namespace Go.Vc
open Go Go.Proofs Go.MapKept

structure LB where
  s : SB
  bk : Nat
  ck : Nat
  bw : Nat
  cw : Nat
abbrev LB.cells (L : LB) (k : Bool) (many : Nat) (g : Value) : Array Value := #[nilS, sl L.s.bm 1 L.s.cm, nilS, sl L.s.ba 2 L.s.ca, sl L.s.bt 2 L.s.ct, nilS, .string (nm k), sl L.bk 1 L.ck, sl L.bw 1 L.cw, vI 200, vI many, g]
structure LOk (h : Hp) (w : Nat) (k : Bool) (L : LB) : Prop where
  S : Sch h w L.s
  hk : cellsAt h L.bk 0 [vI (kd k)]
  hw : cellsAt h L.bw 0 [vI w]
theorem LOk.ext {h h' : Hp} {w : Nat} {k : Bool} {L : LB} (O : LOk h w k L) (x : Ext h h') : LOk h' w k L := ⟨O.S.ext x, x.cells O.hk, x.cells O.hw⟩

theorem info241 : ∃ i z, Tryz.prog.info? 241 = some i ∧ i.zero = some z := by
  have h : (Tryz.prog.info? 241).bind (·.zero) = some (idV 0) := by kernel_rfl
  obtain ⟨i, h1, h2⟩ := Option.bind_eq_some_iff.1 h
  exact ⟨i, _, h1, h2⟩
theorem z241 : zeros Tryz.prog 241 = (idL 0).toArray := by kernel_rfl
theorem info53 : ∃ i z, Tryz.prog.info? 53 = some i ∧ i.zero = some z := by
  have h : (Tryz.prog.info? 53).bind (·.zero) = some (.agg #[nilS, vI 0, .string ⟨#[]⟩, nilS]) := by kernel_rfl
  obtain ⟨i, h1, h2⟩ := Option.bind_eq_some_iff.1 h
  exact ⟨i, _, h1, h2⟩
theorem z53 : zeros Tryz.prog 53 = #[nilS, vI 0, .string ⟨#[]⟩, nilS] := by kernel_rfl
theorem z53_size : (zeros Tryz.prog 53).size = 4 := by kernel_rfl

section
variable {h : Hp} {w : Nat} {k : Bool} {L : LB} {bl many : Nat} {g : Value}

theorem key_c (O : LOk h w k L) (hl : h[bl]? = some (.cells (L.cells k many g) 144)) {kb kc : Nat} {x : B128} (hx : cellsAt h kb 0 (bitsL x)) :
    CallsH Tryz.prog 161 #[vP bl, sl kb 1 kc] h (RetX (.bool (decide (x &&& onesB w = x))) h) := by
  refine V161 _ _ _ _ h _ ⟨bl, 0, rfl, _, _, _, cellsAt_one (cellH_at hl), fun hf => absurd hf (by decide), fun _ => ?_⟩
  refine ⟨bl, 0, rfl, _, _, _, cellsAt_one (cellH_at hl), cntI 1 fun i q => Ext h q ∧ (i = 1 → x &&& onesB w = x), cntM 1, cnt_0 ⟨Ext.refl _, by simp⟩, ?_⟩
  rintro y hp ⟨i, hi, hv, xp, hf⟩
  cases hv
  refine ⟨fun hlt => ?_, fun hge => ?_⟩
  · have hin := cnt_lt hlt
    obtain rfl : i = 0 := by omega
    refine ⟨L.bw, 0, rfl, by decide, by decide, _, xp.cells O.hw, fun q => Ext hp q, Ext.refl _, kb, 0, rfl, by decide, by decide, _, _, fun q xq => (xp.trans xq).cells hx, (tones_c w O.S.w2).mono ?_⟩
    rintro en h1 ⟨rfl, x1⟩
    refine ⟨_, _, rfl, x1, (tand_c x (onesB w)).mono ?_⟩
    rintro en h2 ⟨rfl, x2⟩
    refine ⟨_, _, rfl, x1.trans x2, kb, 0, rfl, by decide, by decide, _, _, fun q xq => (xp.trans xq).cells hx, _, eqB _ _, fun hb => ⟨?_, (xp.trans x1).trans x2⟩, fun hb => cnt_next (n := 1) (i := 0) (by decide) (by decide) ⟨(xp.trans x1).trans x2, fun _ => ?_⟩⟩
    · rw [Bool.not_eq_true'] at hb; rw [hb]
    · rw [Bool.not_eq_false'] at hb; exact of_decide_eq_true hb
  · obtain rfl := cnt_ge hi hge
    exact ⟨by rw [decide_eq_true (hf rfl)], xp⟩

theorem shape_c (O : LOk h w k L) (hl : h[bl]? = some (.cells (L.cells k many g) 144)) {mp mc n p : Nat} {v : B128} {act : ByteArray} {ap : Option Addr} {an ac : Nat} (hm : cellsAt h mp 0 (mcells k w n v)) :
    CallsH Tryz.prog 165 #[vP bl, .agg #[sl mp 1 mc, vI p, .string act, .slice ap an ac]] h fun e h' => ∃ b c, h.size ≤ b ∧ Ext h h' ∧ cellsAt h' b 0 (mcells k w n 0) ∧ e = .returned (sl b 1 c) := by
  refine V165 _ _ _ _ _ _ _ _ _ h _ ?_
  rintro b0 h0 rfl rfl
  have x0 : Ext h (h.push (.cells #[sl mp 1 mc, vI p, .string act, .slice ap an ac] 53)) := Ext.push _ _
  have c0 := push_last (h := h) (o := .cells #[sl mp 1 mc, vI p, .string act, .slice ap an ac] 53)
  generalize h.push (.cells #[sl mp 1 mc, vI p, .string act, .slice ap an ac] 53) = h0 at *
  refine ⟨bl, 0, rfl, _, _, _, cellsAt_one (cellH_at (x0.at hl)), fun vs q => Ext h0 q ∧ ((vs = [nilS, vI 0]) ∨ ∃ b c, vs = [sl b 1 c, vI 1] ∧ h.size ≤ b ∧ cellsAt q b 0 (mcells k w n 0)), fun vs _ => 1 - (numAt vs 1).toNat, ⟨Ext.refl _, .inl rfl⟩, ?_⟩
  rintro op on oc i h1 ⟨x1, hv⟩
  rcases hv with hv | ⟨b, c, hv, hb, hc⟩
  · cases hv
    refine ⟨fun _ => ⟨L.bk, 0, rfl, by decide, by decide, _, (x0.trans x1).cells O.hk, _, _, _, cellsAt_one (cellH_at (x1.at c0)), mp, 0, rfl, by decide, by decide, _, _, _, _, _, (x0.trans x1).cells hm, ?_⟩, fun hf => absurd hf (by decide)⟩
    rintro b4 h2 rfl rfl
    have x2 := x1.box (.cells (zeros Tryz.prog 50) 50)
    refine ⟨info50, stoT (n := 5) x2 x1.size push_last rfl z50_size (by simp [Value.oneCell']) fun h3 x3 z3 c3 k3 => ⟨fun hf => (by cases k <;> simp at hf), fun _ => ?_⟩⟩
    have goal : List.length [Value.int .u64 (0 : Int), Value.int .u64 (0 : Int)] = 2 ∧ (∀ c ∈ [Value.int .u64 (0 : Int), Value.int .u64 (0 : Int)], c.oneCell' = true) ∧ wrAt h3 h1.size (0 + 0) 2 ∧ ∀ hp_4, hp_4 = setsH h3 h1.size (0 + 0) [Value.int .u64 (0 : Int), Value.int .u64 (0 : Int)] →
         ∃ x37f0_ : Int, ∃ x37f1_ : Int, ∃ x37f2_ : Int, ∃ x37f3_ : Int, ∃ x37f4_ : Int, cellsAt hp_4 h1.size 0 [(Value.int .u64 x37f0_), (Value.int .u64 x37f1_), (Value.int .u64 x37f2_), (Value.int .u64 x37f3_), (Value.int .i64 x37f4_)] ∧
         SemH Tryz.prog (Instr.buildSlice 51 1 #[(0, (Value.agg #[(Value.int .u64 x37f0_), (Value.int .u64 x37f1_), (Value.int .u64 x37f2_), (Value.int .u64 x37f3_), (Value.int .i64 x37f4_)]))]) hp_4 fun v_ hp_5 =>
         ∃ (x38p_ : Option Addr) (x38n_ x38c_ : Nat), v_ = (Value.slice x38p_ x38n_ x38c_) ∧
         SemH Tryz.prog (Builtin.append_ #[51, 51] 51 #[nilS, (Value.slice x38p_ x38n_ x38c_)]) hp_5 fun v_1 hp_6 =>
         ∃ (x39p_ : Option Addr) (x39n_ x39c_ : Nat), v_1 = (Value.slice x39p_ x39n_ x39c_) ∧
         ∃ b c, Value.slice x39p_ x39n_ x39c_ = sl b 1 c ∧ h.size ≤ b ∧ Ext h0 hp_6 ∧ cellsAt hp_6 b 0 (mcells k w n 0) := by
      refine ⟨rfl, (by simp [Value.oneCell']), wrAt_of c3 (by simp) (.inl (Nat.zero_le _)), ?_⟩
      intro h4 hh4
      have c4 : h4[h1.size]? = some (.cells (mcells k w n 0).toArray 50) := by
        rw [hh4, setsH_at c3]
        simp only [mcells, hi_0, lo_0]
        rfl
      have x4 : Ext h0 h4 := by rw [hh4]; exact x3.sets x1.size _
      clear hh4
      refine ⟨_, _, _, _, _, cellsAt_all c4, ?_⟩
      refine semH_pushS row51 (by decide) (Own.nil h4 h4.size 50 5) (r := mcells k w n 0) rfl rfl (by decide) (by simp [mcells, Value.oneCell']) (by decide) (by decide) (Nat.le_refl _) fun p' c' h5 o5 g5 _ _ => ?_
      have x5 : Ext h4 h5 := ⟨g5.size, fun q hq => g5.block q hq (by simp [Value.ownBlock])⟩
      obtain ⟨bp, rfl⟩ : ∃ bp, p' = some ⟨bp, 0, none⟩ := by
        rcases o5.2 with ⟨_, hh⟩ | ⟨g, cap, cur, hv, _⟩
        · cases hh
        · cases hv; exact ⟨g, rfl⟩
      exact ⟨bp, c', rfl, by have := o5.le1.1; have := x4.size; have := x0.size; omega, x4.trans x5, o5.cellsA⟩
    cases k
    · refine ⟨fun _ => ?_, fun hf => absurd hf (by decide)⟩
      obtain ⟨e1, e2, e3, e4⟩ := goal
      refine ⟨e1, e2, e3, fun h4 hh4 => ?_⟩
      obtain ⟨f0, f1, f2, f3, f4, e5, e6⟩ := e4 h4 hh4
      refine ⟨f0, f1, f2, f3, f4, e5, e6.mono fun v h5 hv => ?_⟩
      obtain ⟨p1, n1, c1, rfl, e7⟩ := hv
      refine ⟨p1, n1, c1, rfl, e7.mono fun v h6 hv => ?_⟩
      obtain ⟨p2, n2, c2, rfl, b, c, e8, e9, e10, e11⟩ := hv
      exact ⟨p2, n2, c2, rfl, 1, by decide, ⟨e10, .inr ⟨b, c, (by rw [e8]; rfl), e9, e11⟩⟩, show 0 < 1 by decide⟩
    · refine ⟨fun hf => absurd hf (by decide), fun _ => ⟨fun _ => ?_, fun hf => absurd hf (by decide)⟩⟩
      obtain ⟨e1, e2, e3, e4⟩ := goal
      refine ⟨e1, e2, e3, fun h4 hh4 => ?_⟩
      obtain ⟨f0, f1, f2, f3, f4, e5, e6⟩ := e4 h4 hh4
      refine ⟨f0, f1, f2, f3, f4, e5, e6.mono fun v h5 hv => ?_⟩
      obtain ⟨p1, n1, c1, rfl, e7⟩ := hv
      refine ⟨p1, n1, c1, rfl, e7.mono fun v h6 hv => ?_⟩
      obtain ⟨p2, n2, c2, rfl, b, c, e8, e9, e10, e11⟩ := hv
      exact ⟨p2, n2, c2, rfl, 1, by decide, ⟨e10, .inr ⟨b, c, (by rw [e8]; rfl), e9, e11⟩⟩, show 0 < 1 by decide⟩
  · cases hv
    exact ⟨fun hf => absurd hf (by decide), fun _ => ⟨b, _, hb, x0.trans x1, hc, rfl⟩⟩

theorem leftOf_c (O : LOk h w k L) (hl : h[bl]? = some (.cells (L.cells k many g) 144)) {bs cs n kb kc : Nat} {v x : B128} (hs : cellsAt h bs 0 (mcells k w n v)) (hn : n ≤ w) (hx : cellsAt h kb 0 (bitsL x)) :
    CallsH Tryz.prog 162 #[vP bl, sl bs 1 cs, sl kb 1 kc] h (RetX (.tuple #[idV (x &&& msk w n), .bool true]) h) := by
  refine V162 _ _ _ _ _ _ _ h _ ?_
  rintro b0 h0 rfl rfl
  refine ⟨info241, ?_⟩
  rintro b1 h1 hb1 hh1
  refine ⟨info241, ?_⟩
  have S := O.S
  have x1 : Ext h h1 := by rw [hh1]; exact (Ext.push _ _).box _
  have c0 : h1[h.size]? = some (.cells (idL 0).toArray 241) := by rw [hh1, ← z241]; exact (Ext.push _ _).at push_last
  have c1 : h1[b1]? = some (.cells (idL 0).toArray 241) := by rw [hh1, hb1, ← z241]; exact push_last
  have n1 : b1 = h.size + 1 := by rw [hb1]; simp
  clear hb1 hh1
  refine ⟨bl, 0, rfl, _, _, _, cellsAt_one (cellH_at (x1.at hl)), cntI 1 fun i q => Ext h q ∧ q[h.size]? = some (.cells (idL 0).toArray 241) ∧ q[b1]? = some (.cells (idL (if i = 0 then 0 else x &&& msk w n)).toArray 241), cntM 1, cnt_0 ⟨x1, c0, by simpa using c1⟩, ?_⟩
  rintro y h2 ⟨i, hi, hv, x2, d0, d1⟩
  cases hv
  have hb0lt := (Array.getElem?_eq_some_iff.1 d0).1
  have hb1lt := (Array.getElem?_eq_some_iff.1 d1).1
  refine ⟨fun hlt => ?_, fun hge => ?_⟩
  · have hin := cnt_lt hlt
    obtain rfl : i = 0 := by omega
    rw [if_pos rfl] at d1
    refine ⟨L.bk, 0, rfl, by decide, by decide, _, x2.cells O.hk, fun hf => (by cases k <;> simp at hf), fun _ => ⟨fun hf2 => ?_, fun hf2 => ⟨fun hf3 => ?_, fun hf3 => (by cases k <;> simp at hf2 hf3)⟩⟩⟩
    · obtain rfl : k = false := by cases k; rfl; simp at hf2
      have cl2 := x2.at hl
      have hw2 := x2.cells O.hw
      have hlen : cellsAt h2 bs ((0 + Int.toNat (0 : Int) * 5) + 4) [vI n] := ⟨(x2.cells hs).2.2.2.2.1, trivial⟩
      have hwn : IntKind.i64.wrap ((w : Int) - (n : Int)) = ((w - n : Nat) : Int) := by
        have := S.w2
        rw [IntKind.wrap_i64]; omega
      refine ⟨fun vs q => ∃ ba bb, vs = [vP ba, vP bb] ∧ Ext h2 q ∧ q[ba]? = some (.cells (bitsL (onesB w)).toArray 40) ∧ q[bb]? = some (.cells (bitsL (onesB (w - n))).toArray 40), ⟨?_, ?_, ?_, ?_, ?_, ?_, ?_, ?_, ?_, ?_, ?_, ?_⟩, ?_⟩
      · refine ⟨fun q => Ext h2 q, Ext.refl _, bl, 0, rfl, _, _, _, fun q xq => cellsAt_one (cellH_at (xq.at cl2)), L.bw, 0, rfl, by decide, by decide, _, fun q xq => xq.cells hw2, bl, 0, rfl, _, _, _, fun q xq => cellsAt_one (cellH_at (xq.at cl2)), L.bw, 0, rfl, by decide, by decide, _, fun q xq => xq.cells hw2, bs, 0, rfl, by decide, by decide, _, fun q xq => xq.cells hlen, _, hwn, ?_⟩
        refine (tones_c w S.w2).mono ?_
        rintro en1 q1 ⟨rfl, y1⟩
        have z1 := (Ext.refl h2).trans y1
        refine ⟨_, _, rfl, z1, ?_⟩
        refine (tones_c (w - n) (by have := S.w2; omega)).mono ?_
        rintro en2 q2 ⟨rfl, y2⟩
        have z2 := z1.trans y2
        refine ⟨_, _, rfl, z2, ?_⟩
        rintro b3 q3 rfl rfl
        have z3 := z2.box (.cells zB 40)
        have y3 := Ext.push q2 (.cells zB 40)
        have g3 := z2.size
        have c3_0 := push_last (h := q2) (o := .cells zB 40)
        generalize (q2).size = p0 at *
        generalize hq3 : (q2).push (.cells zB 40) = q3 at *
        refine ⟨info40, z3, ?_⟩
        rintro b4 q4 rfl rfl
        have z4 := z3.box (.cells zB 40)
        have y4 := Ext.push q3 (.cells zB 40)
        have g4 := z3.size
        have ne := Nat.ne_of_lt (Array.getElem?_eq_some_iff.1 c3_0).1
        have c4_0 := y4.at c3_0
        have c4_1 := push_last (h := q3) (o := .cells zB 40)
        generalize (q3).size = p1 at *
        generalize hq4 : (q3).push (.cells zB 40) = q4 at *
        refine ⟨info40, z4, ?_⟩
        refine stoT (n := 2) z4 g3 c4_0 rfl zB_size (by simp [Value.oneCell']) fun q5 z5 s5 d5 k5 => ⟨z5, ?_⟩
        have e5 := (k5 _ ne.symm).trans c4_1
        refine stoT (n := 2) z5 g4 e5 rfl zB_size (by simp [Value.oneCell']) fun q6 z6 s6 d6 k6 => ⟨z6, ?_⟩
        exact ⟨_, _, rfl, z6, (k6 _ ne).trans d5, d6⟩
      · refine ⟨fun q => Ext h2 q, Ext.refl _, bl, 0, rfl, _, _, _, fun q xq => cellsAt_one (cellH_at (xq.at cl2)), L.bw, 0, rfl, by decide, by decide, _, fun q xq => xq.cells hw2, bl, 0, rfl, _, _, _, fun q xq => cellsAt_one (cellH_at (xq.at cl2)), L.bw, 0, rfl, by decide, by decide, _, fun q xq => xq.cells hw2, bs, 0, rfl, by decide, by decide, _, fun q xq => xq.cells hlen, _, hwn, ?_⟩
        refine (tones_c w S.w2).mono ?_
        rintro en1 q1 ⟨rfl, y1⟩
        have z1 := (Ext.refl h2).trans y1
        refine ⟨_, _, rfl, z1, ?_⟩
        refine (tones_c (w - n) (by have := S.w2; omega)).mono ?_
        rintro en2 q2 ⟨rfl, y2⟩
        have z2 := z1.trans y2
        refine ⟨_, _, rfl, z2, ?_⟩
        rintro b3 q3 rfl rfl
        have z3 := z2.box (.cells zB 40)
        have y3 := Ext.push q2 (.cells zB 40)
        have g3 := z2.size
        have c3_0 := push_last (h := q2) (o := .cells zB 40)
        generalize (q2).size = p0 at *
        generalize hq3 : (q2).push (.cells zB 40) = q3 at *
        refine ⟨info40, z3, ?_⟩
        rintro b4 q4 rfl rfl
        have z4 := z3.box (.cells zB 40)
        have y4 := Ext.push q3 (.cells zB 40)
        have g4 := z3.size
        have ne := Nat.ne_of_lt (Array.getElem?_eq_some_iff.1 c3_0).1
        have c4_0 := y4.at c3_0
        have c4_1 := push_last (h := q3) (o := .cells zB 40)
        generalize (q3).size = p1 at *
        generalize hq4 : (q3).push (.cells zB 40) = q4 at *
        refine ⟨info40, z4, ?_⟩
        refine stoT (n := 2) z4 g4 c4_1 rfl zB_size (by simp [Value.oneCell']) fun q5 z5 s5 d5 k5 => ⟨z5, ?_⟩
        have e5 := (k5 _ ne).trans c4_0
        refine stoT (n := 2) z5 g3 e5 rfl zB_size (by simp [Value.oneCell']) fun q6 z6 s6 d6 k6 => ⟨z6, ?_⟩
        exact ⟨_, _, rfl, z6, (k6 _ ne.symm).trans d5, d6⟩
      · refine ⟨fun q => Ext h2 q, Ext.refl _, bl, 0, rfl, _, _, _, fun q xq => cellsAt_one (cellH_at (xq.at cl2)), L.bw, 0, rfl, by decide, by decide, _, fun q xq => xq.cells hw2, bl, 0, rfl, _, _, _, fun q xq => cellsAt_one (cellH_at (xq.at cl2)), L.bw, 0, rfl, by decide, by decide, _, fun q xq => xq.cells hw2, bs, 0, rfl, by decide, by decide, _, fun q xq => xq.cells hlen, _, hwn, ?_⟩
        refine (tones_c w S.w2).mono ?_
        rintro en1 q1 ⟨rfl, y1⟩
        have z1 := (Ext.refl h2).trans y1
        refine ⟨_, _, rfl, z1, ?_⟩
        rintro b2 q2 rfl rfl
        have z2 := z1.box (.cells zB 40)
        have y2 := Ext.push q1 (.cells zB 40)
        have g2 := z1.size
        have c2_0 := push_last (h := q1) (o := .cells zB 40)
        generalize (q1).size = p0 at *
        generalize hq2 : (q1).push (.cells zB 40) = q2 at *
        refine ⟨info40, z2, ?_⟩
        refine (tones_c (w - n) (by have := S.w2; omega)).mono ?_
        rintro en3 q3 ⟨rfl, y3⟩
        have z3 := z2.trans y3
        refine ⟨_, _, rfl, z3, ?_⟩
        have c3_0 := y3.at c2_0
        rintro b4 q4 rfl rfl
        have z4 := z3.box (.cells zB 40)
        have y4 := Ext.push q3 (.cells zB 40)
        have g4 := z3.size
        have ne := Nat.ne_of_lt (Array.getElem?_eq_some_iff.1 c3_0).1
        have c4_0 := y4.at c3_0
        have c4_1 := push_last (h := q3) (o := .cells zB 40)
        generalize (q3).size = p1 at *
        generalize hq4 : (q3).push (.cells zB 40) = q4 at *
        refine ⟨info40, z4, ?_⟩
        refine stoT (n := 2) z4 g2 c4_0 rfl zB_size (by simp [Value.oneCell']) fun q5 z5 s5 d5 k5 => ⟨z5, ?_⟩
        have e5 := (k5 _ ne.symm).trans c4_1
        refine stoT (n := 2) z5 g4 e5 rfl zB_size (by simp [Value.oneCell']) fun q6 z6 s6 d6 k6 => ⟨z6, ?_⟩
        exact ⟨_, _, rfl, z6, (k6 _ ne).trans d5, d6⟩
      · refine ⟨fun q => Ext h2 q, Ext.refl _, bl, 0, rfl, _, _, _, fun q xq => cellsAt_one (cellH_at (xq.at cl2)), L.bw, 0, rfl, by decide, by decide, _, fun q xq => xq.cells hw2, bl, 0, rfl, _, _, _, fun q xq => cellsAt_one (cellH_at (xq.at cl2)), L.bw, 0, rfl, by decide, by decide, _, fun q xq => xq.cells hw2, bs, 0, rfl, by decide, by decide, _, fun q xq => xq.cells hlen, _, hwn, ?_⟩
        refine (tones_c w S.w2).mono ?_
        rintro en1 q1 ⟨rfl, y1⟩
        have z1 := (Ext.refl h2).trans y1
        refine ⟨_, _, rfl, z1, ?_⟩
        rintro b2 q2 rfl rfl
        have z2 := z1.box (.cells zB 40)
        have y2 := Ext.push q1 (.cells zB 40)
        have g2 := z1.size
        have c2_0 := push_last (h := q1) (o := .cells zB 40)
        generalize (q1).size = p0 at *
        generalize hq2 : (q1).push (.cells zB 40) = q2 at *
        refine ⟨info40, z2, ?_⟩
        rintro b3 q3 rfl rfl
        have z3 := z2.box (.cells zB 40)
        have y3 := Ext.push q2 (.cells zB 40)
        have g3 := z2.size
        have ne := Nat.ne_of_lt (Array.getElem?_eq_some_iff.1 c2_0).1
        have c3_0 := y3.at c2_0
        have c3_1 := push_last (h := q2) (o := .cells zB 40)
        generalize (q2).size = p1 at *
        generalize hq3 : (q2).push (.cells zB 40) = q3 at *
        refine ⟨info40, z3, ?_⟩
        refine (tones_c (w - n) (by have := S.w2; omega)).mono ?_
        rintro en4 q4 ⟨rfl, y4⟩
        have z4 := z3.trans y4
        refine ⟨_, _, rfl, z4, ?_⟩
        have c4_0 := y4.at c3_0
        have c4_1 := y4.at c3_1
        refine stoT (n := 2) z4 g2 c4_0 rfl zB_size (by simp [Value.oneCell']) fun q5 z5 s5 d5 k5 => ⟨z5, ?_⟩
        have e5 := (k5 _ ne.symm).trans c4_1
        refine stoT (n := 2) z5 g3 e5 rfl zB_size (by simp [Value.oneCell']) fun q6 z6 s6 d6 k6 => ⟨z6, ?_⟩
        exact ⟨_, _, rfl, z6, (k6 _ ne).trans d5, d6⟩
      · refine ⟨fun q => Ext h2 q, Ext.refl _, bl, 0, rfl, _, _, _, fun q xq => cellsAt_one (cellH_at (xq.at cl2)), L.bw, 0, rfl, by decide, by decide, _, fun q xq => xq.cells hw2, bl, 0, rfl, _, _, _, fun q xq => cellsAt_one (cellH_at (xq.at cl2)), L.bw, 0, rfl, by decide, by decide, _, fun q xq => xq.cells hw2, bs, 0, rfl, by decide, by decide, _, fun q xq => xq.cells hlen, _, hwn, ?_⟩
        refine (tones_c w S.w2).mono ?_
        rintro en1 q1 ⟨rfl, y1⟩
        have z1 := (Ext.refl h2).trans y1
        refine ⟨_, _, rfl, z1, ?_⟩
        rintro b2 q2 rfl rfl
        have z2 := z1.box (.cells zB 40)
        have y2 := Ext.push q1 (.cells zB 40)
        have g2 := z1.size
        have c2_0 := push_last (h := q1) (o := .cells zB 40)
        generalize (q1).size = p0 at *
        generalize hq2 : (q1).push (.cells zB 40) = q2 at *
        refine ⟨info40, z2, ?_⟩
        refine (tones_c (w - n) (by have := S.w2; omega)).mono ?_
        rintro en3 q3 ⟨rfl, y3⟩
        have z3 := z2.trans y3
        refine ⟨_, _, rfl, z3, ?_⟩
        have c3_0 := y3.at c2_0
        rintro b4 q4 rfl rfl
        have z4 := z3.box (.cells zB 40)
        have y4 := Ext.push q3 (.cells zB 40)
        have g4 := z3.size
        have ne := Nat.ne_of_lt (Array.getElem?_eq_some_iff.1 c3_0).1
        have c4_0 := y4.at c3_0
        have c4_1 := push_last (h := q3) (o := .cells zB 40)
        generalize (q3).size = p1 at *
        generalize hq4 : (q3).push (.cells zB 40) = q4 at *
        refine ⟨info40, z4, ?_⟩
        refine stoT (n := 2) z4 g4 c4_1 rfl zB_size (by simp [Value.oneCell']) fun q5 z5 s5 d5 k5 => ⟨z5, ?_⟩
        have e5 := (k5 _ ne).trans c4_0
        refine stoT (n := 2) z5 g2 e5 rfl zB_size (by simp [Value.oneCell']) fun q6 z6 s6 d6 k6 => ⟨z6, ?_⟩
        exact ⟨_, _, rfl, z6, (k6 _ ne.symm).trans d5, d6⟩
      · refine ⟨fun q => Ext h2 q, Ext.refl _, bl, 0, rfl, _, _, _, fun q xq => cellsAt_one (cellH_at (xq.at cl2)), L.bw, 0, rfl, by decide, by decide, _, fun q xq => xq.cells hw2, bl, 0, rfl, _, _, _, fun q xq => cellsAt_one (cellH_at (xq.at cl2)), L.bw, 0, rfl, by decide, by decide, _, fun q xq => xq.cells hw2, bs, 0, rfl, by decide, by decide, _, fun q xq => xq.cells hlen, _, hwn, ?_⟩
        refine (tones_c w S.w2).mono ?_
        rintro en1 q1 ⟨rfl, y1⟩
        have z1 := (Ext.refl h2).trans y1
        refine ⟨_, _, rfl, z1, ?_⟩
        rintro b2 q2 rfl rfl
        have z2 := z1.box (.cells zB 40)
        have y2 := Ext.push q1 (.cells zB 40)
        have g2 := z1.size
        have c2_0 := push_last (h := q1) (o := .cells zB 40)
        generalize (q1).size = p0 at *
        generalize hq2 : (q1).push (.cells zB 40) = q2 at *
        refine ⟨info40, z2, ?_⟩
        rintro b3 q3 rfl rfl
        have z3 := z2.box (.cells zB 40)
        have y3 := Ext.push q2 (.cells zB 40)
        have g3 := z2.size
        have ne := Nat.ne_of_lt (Array.getElem?_eq_some_iff.1 c2_0).1
        have c3_0 := y3.at c2_0
        have c3_1 := push_last (h := q2) (o := .cells zB 40)
        generalize (q2).size = p1 at *
        generalize hq3 : (q2).push (.cells zB 40) = q3 at *
        refine ⟨info40, z3, ?_⟩
        refine (tones_c (w - n) (by have := S.w2; omega)).mono ?_
        rintro en4 q4 ⟨rfl, y4⟩
        have z4 := z3.trans y4
        refine ⟨_, _, rfl, z4, ?_⟩
        have c4_0 := y4.at c3_0
        have c4_1 := y4.at c3_1
        refine stoT (n := 2) z4 g3 c4_1 rfl zB_size (by simp [Value.oneCell']) fun q5 z5 s5 d5 k5 => ⟨z5, ?_⟩
        have e5 := (k5 _ ne).trans c4_0
        refine stoT (n := 2) z5 g2 e5 rfl zB_size (by simp [Value.oneCell']) fun q6 z6 s6 d6 k6 => ⟨z6, ?_⟩
        exact ⟨_, _, rfl, z6, (k6 _ ne.symm).trans d5, d6⟩
      · refine ⟨fun q => Ext h2 q, Ext.refl _, bl, 0, rfl, _, _, _, fun q xq => cellsAt_one (cellH_at (xq.at cl2)), L.bw, 0, rfl, by decide, by decide, _, fun q xq => xq.cells hw2, bl, 0, rfl, _, _, _, fun q xq => cellsAt_one (cellH_at (xq.at cl2)), L.bw, 0, rfl, by decide, by decide, _, fun q xq => xq.cells hw2, bs, 0, rfl, by decide, by decide, _, fun q xq => xq.cells hlen, _, hwn, ?_⟩
        rintro b1 q1 rfl rfl
        have z1 := (Ext.refl h2).box (.cells zB 40)
        have y1 := Ext.push h2 (.cells zB 40)
        have g1 := (Ext.refl h2).size
        have c1_0 := push_last (h := h2) (o := .cells zB 40)
        generalize hq1 : (h2).push (.cells zB 40) = q1 at *
        refine ⟨info40, z1, ?_⟩
        refine (tones_c w S.w2).mono ?_
        rintro en2 q2 ⟨rfl, y2⟩
        have z2 := z1.trans y2
        refine ⟨_, _, rfl, z2, ?_⟩
        have c2_0 := y2.at c1_0
        refine (tones_c (w - n) (by have := S.w2; omega)).mono ?_
        rintro en3 q3 ⟨rfl, y3⟩
        have z3 := z2.trans y3
        refine ⟨_, _, rfl, z3, ?_⟩
        have c3_0 := y3.at c2_0
        rintro b4 q4 rfl rfl
        have z4 := z3.box (.cells zB 40)
        have y4 := Ext.push q3 (.cells zB 40)
        have g4 := z3.size
        have ne := Nat.ne_of_lt (Array.getElem?_eq_some_iff.1 c3_0).1
        have c4_0 := y4.at c3_0
        have c4_1 := push_last (h := q3) (o := .cells zB 40)
        generalize (q3).size = p1 at *
        generalize hq4 : (q3).push (.cells zB 40) = q4 at *
        refine ⟨info40, z4, ?_⟩
        refine stoT (n := 2) z4 g1 c4_0 rfl zB_size (by simp [Value.oneCell']) fun q5 z5 s5 d5 k5 => ⟨z5, ?_⟩
        have e5 := (k5 _ ne.symm).trans c4_1
        refine stoT (n := 2) z5 g4 e5 rfl zB_size (by simp [Value.oneCell']) fun q6 z6 s6 d6 k6 => ⟨z6, ?_⟩
        exact ⟨_, _, rfl, z6, (k6 _ ne).trans d5, d6⟩
      · refine ⟨fun q => Ext h2 q, Ext.refl _, bl, 0, rfl, _, _, _, fun q xq => cellsAt_one (cellH_at (xq.at cl2)), L.bw, 0, rfl, by decide, by decide, _, fun q xq => xq.cells hw2, bl, 0, rfl, _, _, _, fun q xq => cellsAt_one (cellH_at (xq.at cl2)), L.bw, 0, rfl, by decide, by decide, _, fun q xq => xq.cells hw2, bs, 0, rfl, by decide, by decide, _, fun q xq => xq.cells hlen, _, hwn, ?_⟩
        rintro b1 q1 rfl rfl
        have z1 := (Ext.refl h2).box (.cells zB 40)
        have y1 := Ext.push h2 (.cells zB 40)
        have g1 := (Ext.refl h2).size
        have c1_0 := push_last (h := h2) (o := .cells zB 40)
        generalize hq1 : (h2).push (.cells zB 40) = q1 at *
        refine ⟨info40, z1, ?_⟩
        refine (tones_c w S.w2).mono ?_
        rintro en2 q2 ⟨rfl, y2⟩
        have z2 := z1.trans y2
        refine ⟨_, _, rfl, z2, ?_⟩
        have c2_0 := y2.at c1_0
        rintro b3 q3 rfl rfl
        have z3 := z2.box (.cells zB 40)
        have y3 := Ext.push q2 (.cells zB 40)
        have g3 := z2.size
        have ne := Nat.ne_of_lt (Array.getElem?_eq_some_iff.1 c2_0).1
        have c3_0 := y3.at c2_0
        have c3_1 := push_last (h := q2) (o := .cells zB 40)
        generalize (q2).size = p1 at *
        generalize hq3 : (q2).push (.cells zB 40) = q3 at *
        refine ⟨info40, z3, ?_⟩
        refine (tones_c (w - n) (by have := S.w2; omega)).mono ?_
        rintro en4 q4 ⟨rfl, y4⟩
        have z4 := z3.trans y4
        refine ⟨_, _, rfl, z4, ?_⟩
        have c4_0 := y4.at c3_0
        have c4_1 := y4.at c3_1
        refine stoT (n := 2) z4 g1 c4_0 rfl zB_size (by simp [Value.oneCell']) fun q5 z5 s5 d5 k5 => ⟨z5, ?_⟩
        have e5 := (k5 _ ne.symm).trans c4_1
        refine stoT (n := 2) z5 g3 e5 rfl zB_size (by simp [Value.oneCell']) fun q6 z6 s6 d6 k6 => ⟨z6, ?_⟩
        exact ⟨_, _, rfl, z6, (k6 _ ne).trans d5, d6⟩
      · refine ⟨fun q => Ext h2 q, Ext.refl _, bl, 0, rfl, _, _, _, fun q xq => cellsAt_one (cellH_at (xq.at cl2)), L.bw, 0, rfl, by decide, by decide, _, fun q xq => xq.cells hw2, bl, 0, rfl, _, _, _, fun q xq => cellsAt_one (cellH_at (xq.at cl2)), L.bw, 0, rfl, by decide, by decide, _, fun q xq => xq.cells hw2, bs, 0, rfl, by decide, by decide, _, fun q xq => xq.cells hlen, _, hwn, ?_⟩
        rintro b1 q1 rfl rfl
        have z1 := (Ext.refl h2).box (.cells zB 40)
        have y1 := Ext.push h2 (.cells zB 40)
        have g1 := (Ext.refl h2).size
        have c1_0 := push_last (h := h2) (o := .cells zB 40)
        generalize hq1 : (h2).push (.cells zB 40) = q1 at *
        refine ⟨info40, z1, ?_⟩
        rintro b2 q2 rfl rfl
        have z2 := z1.box (.cells zB 40)
        have y2 := Ext.push q1 (.cells zB 40)
        have g2 := z1.size
        have ne := Nat.ne_of_lt (Array.getElem?_eq_some_iff.1 c1_0).1
        have c2_0 := y2.at c1_0
        have c2_1 := push_last (h := q1) (o := .cells zB 40)
        generalize (q1).size = p1 at *
        generalize hq2 : (q1).push (.cells zB 40) = q2 at *
        refine ⟨info40, z2, ?_⟩
        refine (tones_c w S.w2).mono ?_
        rintro en3 q3 ⟨rfl, y3⟩
        have z3 := z2.trans y3
        refine ⟨_, _, rfl, z3, ?_⟩
        have c3_0 := y3.at c2_0
        have c3_1 := y3.at c2_1
        refine (tones_c (w - n) (by have := S.w2; omega)).mono ?_
        rintro en4 q4 ⟨rfl, y4⟩
        have z4 := z3.trans y4
        refine ⟨_, _, rfl, z4, ?_⟩
        have c4_0 := y4.at c3_0
        have c4_1 := y4.at c3_1
        refine stoT (n := 2) z4 g1 c4_0 rfl zB_size (by simp [Value.oneCell']) fun q5 z5 s5 d5 k5 => ⟨z5, ?_⟩
        have e5 := (k5 _ ne.symm).trans c4_1
        refine stoT (n := 2) z5 g2 e5 rfl zB_size (by simp [Value.oneCell']) fun q6 z6 s6 d6 k6 => ⟨z6, ?_⟩
        exact ⟨_, _, rfl, z6, (k6 _ ne).trans d5, d6⟩
      · refine ⟨fun q => Ext h2 q, Ext.refl _, bl, 0, rfl, _, _, _, fun q xq => cellsAt_one (cellH_at (xq.at cl2)), L.bw, 0, rfl, by decide, by decide, _, fun q xq => xq.cells hw2, bl, 0, rfl, _, _, _, fun q xq => cellsAt_one (cellH_at (xq.at cl2)), L.bw, 0, rfl, by decide, by decide, _, fun q xq => xq.cells hw2, bs, 0, rfl, by decide, by decide, _, fun q xq => xq.cells hlen, _, hwn, ?_⟩
        rintro b1 q1 rfl rfl
        have z1 := (Ext.refl h2).box (.cells zB 40)
        have y1 := Ext.push h2 (.cells zB 40)
        have g1 := (Ext.refl h2).size
        have c1_0 := push_last (h := h2) (o := .cells zB 40)
        generalize hq1 : (h2).push (.cells zB 40) = q1 at *
        refine ⟨info40, z1, ?_⟩
        refine (tones_c w S.w2).mono ?_
        rintro en2 q2 ⟨rfl, y2⟩
        have z2 := z1.trans y2
        refine ⟨_, _, rfl, z2, ?_⟩
        have c2_0 := y2.at c1_0
        refine (tones_c (w - n) (by have := S.w2; omega)).mono ?_
        rintro en3 q3 ⟨rfl, y3⟩
        have z3 := z2.trans y3
        refine ⟨_, _, rfl, z3, ?_⟩
        have c3_0 := y3.at c2_0
        rintro b4 q4 rfl rfl
        have z4 := z3.box (.cells zB 40)
        have y4 := Ext.push q3 (.cells zB 40)
        have g4 := z3.size
        have ne := Nat.ne_of_lt (Array.getElem?_eq_some_iff.1 c3_0).1
        have c4_0 := y4.at c3_0
        have c4_1 := push_last (h := q3) (o := .cells zB 40)
        generalize (q3).size = p1 at *
        generalize hq4 : (q3).push (.cells zB 40) = q4 at *
        refine ⟨info40, z4, ?_⟩
        refine stoT (n := 2) z4 g4 c4_1 rfl zB_size (by simp [Value.oneCell']) fun q5 z5 s5 d5 k5 => ⟨z5, ?_⟩
        have e5 := (k5 _ ne).trans c4_0
        refine stoT (n := 2) z5 g1 e5 rfl zB_size (by simp [Value.oneCell']) fun q6 z6 s6 d6 k6 => ⟨z6, ?_⟩
        exact ⟨_, _, rfl, z6, (k6 _ ne.symm).trans d5, d6⟩
      · refine ⟨fun q => Ext h2 q, Ext.refl _, bl, 0, rfl, _, _, _, fun q xq => cellsAt_one (cellH_at (xq.at cl2)), L.bw, 0, rfl, by decide, by decide, _, fun q xq => xq.cells hw2, bl, 0, rfl, _, _, _, fun q xq => cellsAt_one (cellH_at (xq.at cl2)), L.bw, 0, rfl, by decide, by decide, _, fun q xq => xq.cells hw2, bs, 0, rfl, by decide, by decide, _, fun q xq => xq.cells hlen, _, hwn, ?_⟩
        rintro b1 q1 rfl rfl
        have z1 := (Ext.refl h2).box (.cells zB 40)
        have y1 := Ext.push h2 (.cells zB 40)
        have g1 := (Ext.refl h2).size
        have c1_0 := push_last (h := h2) (o := .cells zB 40)
        generalize hq1 : (h2).push (.cells zB 40) = q1 at *
        refine ⟨info40, z1, ?_⟩
        refine (tones_c w S.w2).mono ?_
        rintro en2 q2 ⟨rfl, y2⟩
        have z2 := z1.trans y2
        refine ⟨_, _, rfl, z2, ?_⟩
        have c2_0 := y2.at c1_0
        rintro b3 q3 rfl rfl
        have z3 := z2.box (.cells zB 40)
        have y3 := Ext.push q2 (.cells zB 40)
        have g3 := z2.size
        have ne := Nat.ne_of_lt (Array.getElem?_eq_some_iff.1 c2_0).1
        have c3_0 := y3.at c2_0
        have c3_1 := push_last (h := q2) (o := .cells zB 40)
        generalize (q2).size = p1 at *
        generalize hq3 : (q2).push (.cells zB 40) = q3 at *
        refine ⟨info40, z3, ?_⟩
        refine (tones_c (w - n) (by have := S.w2; omega)).mono ?_
        rintro en4 q4 ⟨rfl, y4⟩
        have z4 := z3.trans y4
        refine ⟨_, _, rfl, z4, ?_⟩
        have c4_0 := y4.at c3_0
        have c4_1 := y4.at c3_1
        refine stoT (n := 2) z4 g3 c4_1 rfl zB_size (by simp [Value.oneCell']) fun q5 z5 s5 d5 k5 => ⟨z5, ?_⟩
        have e5 := (k5 _ ne).trans c4_0
        refine stoT (n := 2) z5 g1 e5 rfl zB_size (by simp [Value.oneCell']) fun q6 z6 s6 d6 k6 => ⟨z6, ?_⟩
        exact ⟨_, _, rfl, z6, (k6 _ ne.symm).trans d5, d6⟩
      · refine ⟨fun q => Ext h2 q, Ext.refl _, bl, 0, rfl, _, _, _, fun q xq => cellsAt_one (cellH_at (xq.at cl2)), L.bw, 0, rfl, by decide, by decide, _, fun q xq => xq.cells hw2, bl, 0, rfl, _, _, _, fun q xq => cellsAt_one (cellH_at (xq.at cl2)), L.bw, 0, rfl, by decide, by decide, _, fun q xq => xq.cells hw2, bs, 0, rfl, by decide, by decide, _, fun q xq => xq.cells hlen, _, hwn, ?_⟩
        rintro b1 q1 rfl rfl
        have z1 := (Ext.refl h2).box (.cells zB 40)
        have y1 := Ext.push h2 (.cells zB 40)
        have g1 := (Ext.refl h2).size
        have c1_0 := push_last (h := h2) (o := .cells zB 40)
        generalize hq1 : (h2).push (.cells zB 40) = q1 at *
        refine ⟨info40, z1, ?_⟩
        rintro b2 q2 rfl rfl
        have z2 := z1.box (.cells zB 40)
        have y2 := Ext.push q1 (.cells zB 40)
        have g2 := z1.size
        have ne := Nat.ne_of_lt (Array.getElem?_eq_some_iff.1 c1_0).1
        have c2_0 := y2.at c1_0
        have c2_1 := push_last (h := q1) (o := .cells zB 40)
        generalize (q1).size = p1 at *
        generalize hq2 : (q1).push (.cells zB 40) = q2 at *
        refine ⟨info40, z2, ?_⟩
        refine (tones_c w S.w2).mono ?_
        rintro en3 q3 ⟨rfl, y3⟩
        have z3 := z2.trans y3
        refine ⟨_, _, rfl, z3, ?_⟩
        have c3_0 := y3.at c2_0
        have c3_1 := y3.at c2_1
        refine (tones_c (w - n) (by have := S.w2; omega)).mono ?_
        rintro en4 q4 ⟨rfl, y4⟩
        have z4 := z3.trans y4
        refine ⟨_, _, rfl, z4, ?_⟩
        have c4_0 := y4.at c3_0
        have c4_1 := y4.at c3_1
        refine stoT (n := 2) z4 g2 c4_1 rfl zB_size (by simp [Value.oneCell']) fun q5 z5 s5 d5 k5 => ⟨z5, ?_⟩
        have e5 := (k5 _ ne).trans c4_0
        refine stoT (n := 2) z5 g1 e5 rfl zB_size (by simp [Value.oneCell']) fun q6 z6 s6 d6 k6 => ⟨z6, ?_⟩
        exact ⟨_, _, rfl, z6, (k6 _ ne.symm).trans d5, d6⟩
      rintro a b q ⟨ba, bb, hv, xq, ca, cb⟩
      cases hv
      refine ⟨kb, 0, rfl, by decide, by decide, _, _, (x2.trans xq).cells hx, ba, 0, rfl, _, cellsAt_one (cellH_at ca), bb, 0, rfl, _, cellsAt_one (cellH_at cb), _, clr64 _ _, ba, 0, rfl, _, cellsAt_one (cellH_at ca), bb, 0, rfl, _, cellsAt_one (cellH_at cb), _, clr64 _ _, ?_⟩
      rw [← hi_not, ← lo_not, ← hi_and, ← lo_and]
      refine (tand_c x (onesB w &&& ~~~ onesB (w - n))).mono ?_
      rintro en q2 ⟨rfl, xq2⟩
      have e1 := (xq.trans xq2).at d1
      refine ⟨_, _, rfl, by decide, by decide, rfl, (by simp [Value.oneCell']), wrAt_of e1 (by simp [idL]) (.inl (Nat.zero_le _)), ?_⟩
      intro q3 hq3
      have f1 : q3[b1]? = some (.cells (idL (x &&& msk w n)).toArray 241) := by rw [hq3, setsH_at e1]; rfl
      have xq3 : Ext h q3 := by rw [hq3]; exact ((x2.trans xq).trans xq2).sets (by omega) _
      have f0 : q3[h.size]? = some (.cells (idL 0).toArray 241) := by rw [hq3, setsH_ne (by omega)]; exact (xq.trans xq2).at d0
      exact cnt_next (n := 1) (i := 0) (by decide) (by decide) ⟨xq3, f0, by simpa using f1⟩
    · obtain rfl : k = true := by cases k; simp at hf3; rfl
      have hm2 : cellsAt h2 bs ((0 + Int.toNat (0 : Int) * 5) + 2) [vW (hiW (msk w n)), vW (loW (msk w n))] := ⟨(x2.cells hs).2.2.1, (x2.cells hs).2.2.2.1, trivial⟩
      refine ⟨kb, 0, rfl, by decide, by decide, _, _, x2.cells hx, bs, 0, rfl, by decide, by decide, _, _, hm2, (tand_c x (msk w n)).mono ?_⟩
      rintro en q2 ⟨rfl, xq2⟩
      have e1 := xq2.at d1
      refine ⟨_, _, rfl, by decide, by decide, rfl, (by simp [Value.oneCell']), wrAt_of e1 (by simp [idL]) (.inl (Nat.zero_le _)), ?_⟩
      intro q3 hq3
      have f1 : q3[b1]? = some (.cells (idL (x &&& msk w n)).toArray 241) := by rw [hq3, setsH_at e1]; rfl
      have xq3 : Ext h q3 := by rw [hq3]; exact (x2.trans xq2).sets (by omega) _
      have f0 : q3[h.size]? = some (.cells (idL 0).toArray 241) := by rw [hq3, setsH_ne (by omega)]; exact xq2.at d0
      exact cnt_next (n := 1) (i := 0) (by decide) (by decide) ⟨xq3, f0, by simpa using f1⟩
  · obtain rfl := cnt_ge hi hge
    rw [if_neg (by decide)] at d1
    refine ⟨_, _, _, _, _, _, _, _, _, _, _, _, _, _, _, _, cellsAt_all d1, stoT (n := 16) x2 (Nat.le_refl _) d0 rfl rfl (by simp [Value.oneCell']) fun h3 x3 z3 c3 k3 => ⟨_, _, _, _, _, _, _, _, _, _, _, _, _, _, _, _, cellsAt_all c3, rfl, x3⟩⟩
end
end Go.Vc
