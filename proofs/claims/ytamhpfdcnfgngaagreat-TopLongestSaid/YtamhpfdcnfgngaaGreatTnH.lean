/- TopLongest: play and Do. -/
import Derived.Test.YtamhpfdcnfgngaaGreatTnG
set_option maxRecDepth 10000
namespace Go.Vc
open Go Go.Proofs Go.MapKept

theorem row145 : RowT Tryz.prog 145 1 1 8 := RowT.of (by kernel_rfl)
theorem z26 : zeros Tryz.prog 26 = #[vI 0] := by kernel_rfl
theorem z145 : zeros Tryz.prog 145 = #[nilS] := by kernel_rfl
theorem info145 : ∃ i z, Tryz.prog.info? 145 = some i ∧ i.zero = some z := by
  have h : (Tryz.prog.info? 145).bind (·.zero) = some nilS := by kernel_rfl
  obtain ⟨i, h1, h2⟩ := Option.bind_eq_some_iff.1 h
  exact ⟨i, _, h1, h2⟩
theorem info55 : ∃ i z, Tryz.prog.info? 55 = some i ∧ i.zero = some z := by
  have h : (Tryz.prog.info? 55).bind (·.zero) = some (.agg #[vI 0, .string ⟨#[]⟩, nilS, vI 0, .string ⟨#[]⟩, nilS]) := by kernel_rfl
  obtain ⟨i, h1, h2⟩ := Option.bind_eq_some_iff.1 h
  exact ⟨i, _, h1, h2⟩
theorem z55_size : (zeros Tryz.prog 55).size = 6 := by kernel_rfl

section
variable {h h' h2 : Hp} {w : Nat} {X : TB}

structure Poke (h h' h2 : Hp) (b : Nat) (t : TypeId) : Prop where
  new : h.size ≤ b
  cell : ∃ v, h'[b]? = some (.cells #[v] t)
  tag : t ≠ 144 ∧ t ≠ 239 ∧ t ≠ 246 ∧ t ≠ 53 ∧ t ≠ 69 ∧ t ≠ 74 ∧ t ≠ 80
  kk : ∀ q, q ≠ b → h2[q]? = h'[q]?
theorem Poke.two {b : Nat} {t : TypeId} (p : Poke h h' h2 b t) {c : Nat} {x y : Value} {r : List Value} (hc : cellsAt h' c 0 (x :: y :: r)) : cellsAt h2 c 0 (x :: y :: r) := by
  refine cells_off p.kk hc ?_
  rintro rfl
  obtain ⟨v, hv⟩ := p.cell
  have := hc.2.1
  rw [cellH_at hv] at this
  simp at this
theorem Poke.tg {b : Nat} {t : TypeId} (p : Poke h h' h2 b t) {c : Nat} {t' : TypeId} (ht : Tag h' c t') (hne : t' ≠ t) : h2[c]? = h'[c]? := p.kk c (ht.ne (let ⟨_, hv⟩ := p.cell; ⟨_, hv⟩) hne)
theorem Poke.old {b : Nat} {t : TypeId} (p : Poke h h' h2 b t) {c o : Nat} {v : Value} {r : List Value} (h0 : cellsAt h c o (v :: r)) {vs : List Value} (hc : cellsAt h' c o vs) : cellsAt h2 c o vs :=
  cells_off p.kk hc (by have h1 : c < h.size := cellH_lt h0.1; have := p.new; omega)
theorem Poke.sch {b : Nat} {t : TypeId} (p : Poke h h' h2 b t) {s : SB} (S0 : Sch h w s) (S : Sch h' w s) : Sch h2 w s :=
  ⟨p.old S0.m S.m, p.old S0.a S.a, p.old S0.p S.p, p.old S0.t S.t, fun k => p.old (S0.k k) (S.k k), fun k => p.old (S0.n k) (S.n k), S.w1, S.w2⟩
theorem Poke.lst {b : Nat} {t : TypeId} (p : Poke h h' h2 b t) {k : Bool} {bl N : Nat} {L : LB} {gv : Value} {gs : List Gp} (O0 : LOk h w k L) (T : LSt h' k w bl L N gv gs) : LSt h2 k w bl L N gv gs := by
  have tb : Tag h' b t := let ⟨_, hv⟩ := p.cell; ⟨_, hv⟩
  refine ⟨(p.tg T.tagL (Ne.symm p.tag.1)).trans T.blk, ⟨p.sch O0.S T.ok.S, p.old O0.hk T.ok.hk, p.old O0.hw T.ok.hw⟩, T.arr.keep fun q hq => p.tg (T.tagA hq) (Ne.symm p.tag.2.1), fun q hq => ?_, fun g hg => ?_, T.nd1, T.nd2, T.nd3⟩
  · obtain ⟨x, hx⟩ := T.ptr q hq
    exact ⟨x, (cellsAt_congr (vs := [.pointer x]) (p.tg (T.tagA hq) (Ne.symm p.tag.2.1)) (cellsAt_one hx)).1⟩
  · have G := T.gp g hg
    exact ⟨(p.tg G.tag (Ne.symm p.tag.2.2.1)).trans G.blk, p.two G.shp, G.nw, G.map.congr (p.kk _ (fun e => tb.neM G.isM e.symm)), fun x hx => ⟨(G.row x hx).1, (G.row x hx).2.own.keep1 (p.tg (G.row x hx).2.tag (Ne.symm p.tag.2.2.2.1)), p.two (G.row x hx).2.hm, p.two (G.row x hx).2.ha⟩, G.nd⟩
theorem Poke.set {b : Nat} {t : TypeId} (p : Poke h h' h2 b t) {Z0 Z : Nat → Prop} {m0 m : Bool → Nat} {E0 E : Bool → Nat → B128 → BitVec 64 → Prop} (D0 : SetIs h w X Z0 m0 E0) (D : SetIs h' w X Z m E) : SetIs h2 w X Z m E := by
  obtain ⟨N0, gv0, gs0, d0, _⟩ := D0
  obtain ⟨N, gv, gs, d, r1, r2, r3⟩ := D
  refine ⟨N, gv, gs, ⟨(p.tg ⟨_, d.blk⟩ (Ne.symm p.tag.2.2.2.2.1)).trans d.blk, p.sch d0.S d.S, d.arr.keep fun q hq => p.tg (show Tag h' q 74 from d.arr.blk hq) (Ne.symm p.tag.2.2.2.2.2.1), fun k => ⟨(p.tg ⟨_, (d.one k).blk⟩ (Ne.symm p.tag.2.2.2.2.2.2)).trans (d.one k).blk, p.old (d0.one k).wd (d.one k).wd⟩, fun k => p.lst (d0.lst k).ok (d.lst k), d.good, d.dis⟩, r1, r2, r3⟩
theorem Poke.sam {b : Nat} {t : TypeId} (p : Poke h h' h2 b t) {Z : Nat → Prop} (s : Sam Z h h') (hs : h'.size ≤ h2.size) : Sam Z h h2 :=
  ⟨Nat.le_trans s.size hs, fun q hq => (p.kk q (by obtain ⟨v, hv, _⟩ := hq; have h1 : q < h.size := cellH_lt hv; have := p.new; omega)).trans (s.si q hq), fun q hq hn => (p.kk q (by have := p.new; omega)).trans (s.loc q hq hn)⟩

theorem play_c {Z : Nat → Prop} {m0 : Bool → Nat} {E0 : Bool → Nat → B128 → BitVec 64 → Prop} (D0 : SetIs h w X Z m0 E0) (hZ : ∀ q, Z q → q < h.size) (k : Bool) {kd p : Int} {a : ByteArray} {ap : Option Addr} {mp mc an ac ob oc : Nat}
    (ho : cellsAt h ob 0 [.int .i64 kd, .string (nm k), sl mp 1 mc, .int .i64 p, .string a, .slice ap an ac]) {C : Int → (Bool → Nat) → (Bool → Nat → B128 → BitVec 64 → Prop) → Prop}
    (hr : ∀ q, Ext h q → CallsH Tryz.prog 51 #[vP X.t, .agg #[.int .i64 kd, .string (nm k), sl mp 1 mc, .int .i64 p, .string a, .slice ap an ac]] q (RetX (vZ 0) q))
    (hd : ∀ q, Ext h q → CallsH Tryz.prog 52 #[vP (X.o k).bo, .agg #[.int .i64 kd, .string (nm k), sl mp 1 mc, .int .i64 p, .string a, .slice ap an ac]] q fun e h' => ∃ f code m E, e = .returned (.tuple #[vZ code, f]) ∧ f.oneCell' = true ∧ Sam Z q h' ∧ SetIs h' w X (Zn Z q) m E ∧ C code m E) :
    CallsH Tryz.prog 10 #[vP X.t, sl ob 1 oc] h fun e h' => ∃ code m E, e = .returned (.tuple #[vZ 0, vZ code]) ∧ Sam Z h h' ∧ SetIs h' w X (Zn Z h) m E ∧ C code m E := by
  refine V10 _ _ _ _ h _ (CallsH.mono (R := fun e h' => ∃ code m E, e = .returned (.tuple #[vZ 0, vZ code]) ∧ Sam Z h h' ∧ SetIs h' w X (Zn Z h) m E ∧ C code m E) ?_ ?_)
  rotate_left
  · rintro en q ⟨code, m, E, rfl, r⟩
    exact ⟨_, _, rfl, code, m, E, rfl, r⟩
  refine V21 _ _ _ _ _ h _ ?_
  rintro b0 h0 rfl rfl b1 h1 hb1 hh1
  refine ⟨info26, ?_⟩
  have x1 : Ext h h1 := by rw [hh1]; exact (Ext.push _ _).box _
  have c0 : h1[h.size]? = some (.cells #[.bool false] 4) := by rw [hh1]; exact (Ext.push _ _).at push_last
  have c1 : h1[b1]? = some (.cells #[vI 0] 26) := by rw [hh1, hb1, ← z26]; exact push_last
  have n1 : b1 = h.size + 1 := by rw [hb1]; simp
  clear hh1 hb1
  refine ⟨false, eqv_ptr (e := 69) (by kernel_rfl) _, (fun hf => by cases hf), fun _ => ⟨fun _ q => q = h1, ⟨false, ⟨fun hf => absurd hf (by decide), fun _ => ⟨rfl, by decide⟩⟩, fun hf => absurd hf (by decide), fun _ => rfl⟩, ?_⟩⟩
  rintro h2 rfl b2 h3 rfl hh3
  refine ⟨info145, ?_⟩
  have x23 : Ext h2 h3 := by rw [hh3]; exact Ext.push _ _
  have c2 : h3[h2.size]? = some (.cells #[nilS] 145) := by rw [hh3, ← z145]; exact push_last
  clear hh3
  have x3 := x1.trans x23
  have c03 := x23.at c0
  have c13 := x23.at c1
  have z1 := x1.size
  have hb1 := (Array.getElem?_eq_some_iff.1 c1).1
  have hb2 := (Array.getElem?_eq_some_iff.1 c2).1
  have hn : ∀ q, h.size ≤ q → ¬ Z q := fun q hq hz => by have := hZ q hz; omega
  refine ⟨fun vs q => (vs = [vI 0] ∧ q = h3) ∨ (vs = [vI 1] ∧ Sam Z h q ∧ q[b1]? = some (.cells #[vI 0] 26) ∧ q[h.size]? = some (.cells #[.bool false] 4) ∧ ∃ m E, SetIs q w X (Zn Z h) m E ∧ C 0 m E), fun vs _ => 1 - (numAt vs 0).toNat, .inl ⟨rfl, rfl⟩, ?_⟩
  rintro y h4 (⟨hv, rfl⟩ | ⟨hv, s4, d1, d0, m, E, D4, hC⟩)
  · cases hv
    refine ⟨fun _ => ?_, fun hf => absurd hf (by decide)⟩
    refine ⟨ob, 0, rfl, by decide, by decide, _, _, _, _, _, _, _, _, _, _, x3.cells ho, ?_⟩
    rintro b4 h5 rfl rfl
    have x5 := Ext.push h4 (.cells (zeros Tryz.prog 55) 55)
    refine ⟨info55, stoT (n := 6) x5 (Nat.le_refl _) push_last rfl z55_size (by simp [Value.oneCell']) fun h6 x6 z6 c6 k6 => ?_⟩
    refine ⟨_, _, _, _, _, _, _, _, _, _, cellsAt_all c6, (hr h6 (x3.trans x6)).mono ?_⟩
    rintro en h7 ⟨rfl, x7⟩
    have x07 := (x3.trans x6).trans x7
    have c67 := x7.at c6
    obtain ⟨N, gv, gs, d, _⟩ := D0.ext x07
    refine ⟨_, rfl, fun hf => absurd hf (by decide), fun _ => ⟨fun q => q[h4.size]? = some (.cells #[.int .i64 kd, .string (nm k), sl mp 1 mc, .int .i64 p, .string a, .slice ap an ac] 55), c67, _, cellsAt_one (cellH_at c67), (table_of_c d k).mono ?_⟩⟩
    rintro en h10 ⟨rfl, x10⟩
    have x010 := x07.trans x10
    have x410 := (x6.trans x7).trans x10
    have c610 := x10.at c67
    refine ⟨_, rfl, c610, _, _, _, _, _, _, _, _, _, _, fun q hq => cellsAt_all hq, (hd h10 x010).mono ?_⟩
    rintro en h11 ⟨f, code, m, E, rfl, hf1, s11, D11, hC⟩
    have D11' : SetIs h11 w X (Zn Z h) m E := D11.wide fun q hq => hq.imp id (fun e => Nat.le_trans x010.size e)
    have s011 : Sam Z h h11 := (Sam.of_ext (Z := Z) x010).trans s11 (fun q hq => .inl hq)
    have z410 := x410.size
    have k11 : ∀ q, h.size ≤ q → q < h10.size → h11[q]? = h10[q]? := fun q h1 h2 => s11.loc q h2 (hn q h1)
    have d11_1 : h11[b1]? = some (.cells #[vI 0] 26) := (k11 b1 (by omega) (by omega)).trans (x410.at c13)
    have d11_0 : h11[h.size]? = some (.cells #[.bool false] 4) := (k11 h.size (Nat.le_refl _) (by omega)).trans (x410.at c03)
    have d11_2 : h11[h2.size]? = some (.cells #[nilS] 145) := (k11 h2.size z1 (by omega)).trans (x410.at c2)
    have hb4 := (Array.getElem?_eq_some_iff.1 c610).1
    refine ⟨_, _, rfl, (k11 h4.size x3.size hb4).trans c610, fun hne => ?_, fun heq => ?_⟩
    · refine ⟨rfl, wrAt_of d11_1 (by simp) (.inl (Nat.zero_le _)), ?_⟩
      intro h12 hh12
      have k12 : ∀ q, q ≠ b1 → h12[q]? = h11[q]? := fun q hq => by rw [hh12]; exact setsH_ne hq
      have e1 : h12[b1]? = some (.cells #[vZ code] 26) := by rw [hh12]; exact setsH_at d11_1
      have z12 : h12.size = h11.size := by rw [hh12]; exact setsH_size
      clear hh12
      have pk : Poke h h11 h12 b1 26 := ⟨by omega, ⟨_, d11_1⟩, by decide, k12⟩
      refine (undo_c (cellsAt_all (vs := [vZ code]) e1) (cellsAt_all (vs := [.bool false]) ((k12 h.size (by omega)).trans d11_0)) (fun _ => cellsAt_all (vs := [nilS]) ((k12 h2.size (by omega)).trans d11_2))).mono ?_
      rintro md h13 ⟨rfl, x13⟩
      refine ⟨rfl, _, cellsAt_all (vs := [vZ code]) (x13.at e1), code, m, E, rfl, ?_, (pk.set D0 D11').ext x13, hC⟩
      exact (pk.sam s011 (by omega)).trans (Sam.of_ext (Z := Z) x13) (fun q hq => .inl hq)
    · obtain rfl : code = 0 := Classical.not_not.1 (of_decide_eq_false heq)
      refine ⟨_, _, _, cellsAt_all (vs := [nilS]) d11_2, ?_⟩
      refine semH_push row145 (Own.nil h11 h11.size 1 1) (vs := [f]) (m := 1) rfl rfl (by simp) (by simp) (by simpa using hf1) (by decide) (by decide) (Nat.le_refl _) fun p' c' h15 o15 g15 _ _ => ?_
      have x15 : Ext h11 h15 := ⟨g15.size, fun j hj => g15.block j hj (by simp [Value.ownBlock])⟩
      have d15_2 := x15.at d11_2
      refine ⟨rfl, wrAt_of d15_2 (by simp) (.inl (Nat.zero_le _)), ?_⟩
      intro h16 hh16
      have k16 : ∀ q, q ≠ h2.size → h16[q]? = h15[q]? := fun q hq => by rw [hh16]; exact setsH_ne hq
      have z16 : h16.size = h15.size := by rw [hh16]; exact setsH_size
      clear hh16
      have pk : Poke h h15 h16 h2.size 145 := ⟨z1, ⟨_, d15_2⟩, by decide, k16⟩
      refine ⟨1, by decide, .inr ⟨rfl, pk.sam (s011.trans (Sam.of_ext (Z := Z) x15) (fun q hq => .inl hq)) (by omega), (k16 b1 (by omega)).trans (x15.at d11_1), (k16 h.size (by omega)).trans (x15.at d11_0), m, E, pk.set D0 (D11'.ext x15), hC⟩, show 0 < 1 by decide⟩
  · cases hv
    refine ⟨fun hf => absurd hf (by decide), fun _ => ⟨rfl, wrAt_of d1 (by simp) (.inl (Nat.zero_le _)), ?_⟩⟩
    intro h17 hh17
    have k17 : ∀ q, q ≠ b1 → h17[q]? = h4[q]? := fun q hq => by rw [hh17]; exact setsH_ne hq
    have e1 : h17[b1]? = some (.cells #[vZ 0] 26) := by rw [hh17]; exact setsH_at d1
    have z17 : h17.size = h4.size := by rw [hh17]; exact setsH_size
    clear hh17
    have pk : Poke h h4 h17 b1 26 := ⟨by omega, ⟨_, d1⟩, by decide, k17⟩
    refine (undo_c (b2 := h2.size) (cellsAt_all (vs := [vZ 0]) e1) (cellsAt_all (vs := [.bool false]) ((k17 h.size (by omega)).trans d0)) (fun hne => absurd rfl hne)).mono ?_
    rintro md h18 ⟨rfl, x18⟩
    exact ⟨rfl, _, cellsAt_all (vs := [vZ 0]) (x18.at e1), 0, m, E, rfl, (pk.sam s4 (by omega)).trans (Sam.of_ext (Z := Z) x18) (fun q hq => .inl hq), (pk.set D0 D4).ext x18, hC⟩
end
end Go.Vc
