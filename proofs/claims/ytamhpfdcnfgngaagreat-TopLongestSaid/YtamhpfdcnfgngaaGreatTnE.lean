/- TopLongest: a set of tables in memory; New. -/
import Derived.Test.YtamhpfdcnfgngaaGreatTnD
set_option maxRecDepth 10000
namespace Go.Vc
open Go Go.Proofs Go.MapKept

theorem row67 : RowT Tryz.prog 67 74 1 8 := RowT.of (by kernel_rfl)

structure One where
  bo : Nat
  kb : Nat
  kc : Nat
  nb : Nat
  nc : Nat
  bw : Nat
  cw : Nat
  bl : Nat
  L : LB
deriving instance Inhabited for SB
deriving instance Inhabited for LB
deriving instance Inhabited for One
abbrev One.cells (o : One) (k : Bool) : Array Value := #[.string (nm k), sl o.kb 1 o.kc, sl o.nb 2 o.nc, vI 200, .string sNone, nilS, .bool false, sl o.bw 1 o.cw, .string sNone, nilS, .iface 83 (vP o.bl)]
structure OneAt (h : Hp) (w : Nat) (k : Bool) (o : One) : Prop where
  blk : h[o.bo]? = some (.cells (o.cells k) 80)
  wd : cellsAt h o.bw 0 [vI w]
structure TB where
  t : Nat
  lb : Nat
  lc : Nat
  s : SB
  o : Bool → One
abbrev setC (s : SB) (v : Value) : Array Value := #[nilS, sl s.bm 1 s.cm, nilS, sl s.ba 2 s.ca, sl s.bt 2 s.ct, nilS, v]
structure SetAt (h : Hp) (w : Nat) (X : TB) (N : Bool → Nat) (gv : Bool → Value) (gs : Bool → List Gp) : Prop where
  blk : h[X.t]? = some (.cells (setC X.s (sl X.lb 2 X.lc)) 69)
  S : Sch h w X.s
  arr : Own h 0 74 1 (sl X.lb 2 X.lc) 2 [vP (X.o false).bo, vP (X.o true).bo]
  one : ∀ k, OneAt h w k (X.o k)
  lst : ∀ k, LSt h k w (X.o k).bl (X.o k).L (N k) (gv k) (gs k)
  good : ∀ k, Good k (gs k) (N k) ∧ Srt (gs k) 0 (gs k).length
  dis : ∀ q, Foot (X.o false).bl (gv false) (gs false) q → ¬ Foot (X.o true).bl (gv true) (gs true) q

theorem KeepsSI.one {h h' : Hp} (K : KeepsSI h h') {w : Nat} {k : Bool} {o : One} (O : OneAt h w k o) : OneAt h' w k o :=
  ⟨(K o.bo ⟨_, (cellH_at O.blk).trans rfl, rfl⟩).trans O.blk, K.cells O.wd rfl⟩
theorem OneAt.ext {h h' : Hp} {w : Nat} {k : Bool} {o : One} (O : OneAt h w k o) (x : Ext h h') : OneAt h' w k o := ⟨x.at O.blk, x.cells O.wd⟩
theorem LSt.new {h : Hp} {w : Nat} {k : Bool} {L : LB} {bl : Nat} (hb : h[bl]? = some (.cells (L.cells k 0 nilS) 144)) (O : LOk h w k L) : LSt h k w bl L 0 nilS [] :=
  ⟨hb, O, Own.nil _ _ _ _, (fun q hq => by cases hq), (fun g hg => by cases hg), by simp, by simp, by simp⟩

section
variable {h h' : Hp} {w : Nat}

theorem SetAt.ext {X : TB} {N : Bool → Nat} {gv : Bool → Value} {gs : Bool → List Gp} (D : SetAt h w X N gv gs) (x : Ext h h') : SetAt h' w X N gv gs :=
  ⟨x.at D.blk, D.S.ext x, D.arr.ext x, fun k => (D.one k).ext x, fun k => (D.lst k).ext x, D.good, D.dis⟩

theorem cells_low {b4 : Nat} (kk : ∀ q, q ≠ b4 → h'[q]? = h[q]?) (lo : ∀ i, i < 10 → cellH h' ⟨b4, i, none⟩ = cellH h ⟨b4, i, none⟩) {b : Nat} {vs : List Value} (hc : cellsAt h b 0 vs) (hl : vs.length ≤ 10) : cellsAt h' b 0 vs := by
  by_cases hb : b = b4
  · subst hb
    refine cellsAt_iff.2 fun j hj => ?_
    rw [Nat.zero_add, lo j (by omega)]
    have := cellsAt_iff.1 hc j hj
    rwa [Nat.zero_add] at this
  · exact cells_off kk hc hb
theorem LOk.low {k : Bool} {L : LB} {b4 : Nat} (O : LOk h w k L) (kk : ∀ q, q ≠ b4 → h'[q]? = h[q]?) (lo : ∀ i, i < 10 → cellH h' ⟨b4, i, none⟩ = cellH h ⟨b4, i, none⟩) (h7 : ∀ x, cellH h ⟨b4, 7, none⟩ ≠ some (.string x)) : LOk h' w k L := by
  refine ⟨⟨cells_low kk lo O.S.m (by simp), cells_low kk lo O.S.a (by simp [SB.acts, SB.act0, act1]), cells_low kk lo O.S.p (by simp), ?_, fun k => cells_low kk lo (O.S.k k) (by simp), fun k => cells_low kk lo (O.S.n k) (by simp), O.S.w1, O.S.w2⟩, cells_low kk lo O.hk (by simp), cells_low kk lo O.hw (by simp)⟩
  refine cells_off kk O.S.t ?_
  intro e
  have := cellsAt_iff.1 O.S.t 7 (by simp [SB.tabs, SB.tab])
  rw [e] at this
  exact h7 _ this

theorem cloned0_c (a : ByteArray) : CallsH Tryz.prog 15 #[.agg #[.string a, nilS]] h (RetX (.agg #[.string a, nilS]) h) := by
  refine V15 _ _ _ _ h _ ?_
  rintro b0 h0 rfl rfl b1 h1 hb1 hh1
  have hi : ∃ i z, Tryz.prog.info? 48 = some i ∧ i.zero = some z := by
    have h : (Tryz.prog.info? 48).bind (·.zero) = some (.agg #[.string ⟨#[]⟩, nilS]) := by kernel_rfl
    obtain ⟨i, h1, h2⟩ := Option.bind_eq_some_iff.1 h
    exact ⟨i, _, h1, h2⟩
  refine ⟨hi, ?_⟩
  have x1 : Ext h h1 := by rw [hh1]; exact (Ext.push _ _).box _
  have c0 : h1[h.size]? = some (.cells #[.string a, nilS] 48) := by rw [hh1]; exact (Ext.push _ _).at push_last
  have c1 : h1[b1]? = some (.cells (zeros Tryz.prog 48) 48) := by rw [hh1, hb1]; exact push_last
  have n1 : b1 = h.size + 1 := by rw [hb1]; simp
  clear hh1 hb1
  refine ⟨fun q => Ext h1 q, Ext.refl _, _, fun q xq => cellsAt_one (cellH_at (xq.at c0)), _, _, _, cellsAt_one (cellH_at c0), cln44_nil.mono ?_⟩
  rintro en h2 ⟨rfl, rfl⟩
  exact ⟨_, _, _, rfl, Ext.refl _, stoT (n := 2) x1 (by omega) c1 rfl (by kernel_rfl) (by simp [Value.oneCell']) fun q xq zq cq kq => ⟨_, _, _, _, cellsAt_all cq, rfl, xq⟩⟩

theorem set_six {s : SB} {v : Value} {b : Nat} (c : h[b]? = some (.cells (setC s v) 69)) : cellsAt h b (0 + 0) [nilS, sl s.bm 1 s.cm, nilS, sl s.ba 2 s.ca, sl s.bt 2 s.ct, nilS] :=
  ⟨cellH_at c, cellH_at c, cellH_at c, cellH_at c, cellH_at c, cellH_at c, trivial⟩

def ptrs (os : Bool → One) (i : Nat) : List Value := ([false, true].take i).map fun k => vP (os k).bo

structure NewAt (h2 : Hp) (w b1 : Nat) (s : SB) (i : Nat) (q : Hp) (lv : Value) (os : Bool → One) : Prop where
  ext : Ext h2 q
  blk : q[b1]? = some (.cells (setC s lv) 69)
  arr : Own q h2.size 74 1 lv i (ptrs os i)
  nil : i = 0 → lv = nilS
  one : ∀ k : Bool, k.toNat < i → OneAt q w k (os k) ∧ LSt q k w (os k).bl (os k).L 0 nilS [] ∧ h2.size ≤ (os k).bl
  dis : i = 2 → (os false).bl ≠ (os true).bl

theorem New_c {s : SB} (S : Sch h w s) : CallsH Tryz.prog 5 #[s.val] h fun e h' => Ext h h' ∧ ∃ X, SetAt h' w X (fun _ => 0) (fun _ => nilS) (fun _ => []) ∧ (∀ k, h.size ≤ (X.o k).bl) ∧ e = .returned (.tuple #[vP X.t, vZ 0]) := by
  refine V5 _ _ _ _ _ _ _ _ _ _ _ _ _ _ _ _ _ _ h _ ?_
  rintro b0 h0 rfl hh0
  have x0 : Ext h h0 := by rw [hh0]; exact Ext.push _ _
  have c0 : h0[h.size]? = some (.cells s.cells.toArray 36) := by rw [hh0]; exact push_last
  clear hh0
  refine ⟨_, _, _, _, _, _, _, _, _, _, _, _, _, _, _, _, _, _, cellsAt_all c0, (check_c (S.ext x0)).mono ?_⟩
  rintro en h1 ⟨rfl, x1⟩
  refine ⟨_, _, rfl, fun hf => absurd hf (by decide), fun _ => ⟨_, _, _, _, _, _, _, _, _, _, _, _, _, _, _, _, _, _, cellsAt_all (x1.at c0), (copy_c (S.ext (x0.trans x1))).mono ?_⟩⟩
  rintro en h2 ⟨s', x2, S2, rfl⟩
  refine ⟨_, _, _, _, _, _, _, _, _, _, _, _, _, _, _, _, _, _, rfl, ?_⟩
  rintro b1 h3 hb1 hh3
  have x3 : Ext h2 h3 := by rw [hh3]; exact Ext.push _ _
  have c3 : h3[b1]? = some (.cells (setC s' nilS) 69) := by rw [hh3, hb1]; exact push_last
  clear hh3
  refine ⟨_, _, _, cellsAt_one (cellH_at c3), cntI 2 fun i q => ∃ lv os, NewAt h2 w b1 s' i q lv os, cntM 2, cnt_0 ⟨nilS, fun _ => default, x3, c3, Own.nil _ _ _ _, fun _ => rfl, fun k hk => absurd hk (Nat.not_lt_zero _), (fun e => by cases e)⟩, ?_⟩
  rintro y h4 ⟨i, hi, hv, lv, os, V⟩
  cases hv
  have x4 := V.ext
  have S4 := S2.ext x4
  refine ⟨fun hlt => ?_, fun hge => ?_⟩
  · have hin := cnt_lt hlt
    obtain ⟨k, rfl⟩ : ∃ k : Bool, k.toNat = i := by
      match i, hin with
      | 0, _ => exact ⟨false, rfl⟩
      | 1, _ => exact ⟨true, rfl⟩
    obtain ⟨b, o, e1, e2, e3, hrow⟩ := S4.tab_at k
    refine ⟨b, o, e1, e2, e3, _, _, _, _, _, _, _, _, _, _, _, _, _, hrow, ?_⟩
    rintro b3 h5 rfl rfl
    have x5 := Ext.push h4 (.cells zT 73)
    refine ⟨info73, stoT (n := 7) x5 (Nat.le_refl _) push_last rfl zT_size (by simp [Value.oneCell']) fun h6 x6 z6 c6 k6 => ?_⟩
    refine ⟨fun q => Ext h6 q, Ext.refl _, _, _, _, _, _, _, _, _, _, _, _, _, _, fun q xq => cellsAt_all (xq.at c6), _, _, _, _, bits_of c6 rfl rfl, (cloned0_c sNone).mono ?_⟩
    rintro en h7 ⟨rfl, x7⟩
    refine ⟨_, _, _, _, rfl, x7, ?_⟩
    rintro b4 h8 hb4 hh8
    have x8 : Ext h7 h8 := by rw [hh8]; exact Ext.push _ _
    have c8 : h8[b4]? = some (.cells #[.string (nm k), sl (s'.bk k) 1 (s'.ck k), sl (s'.bn k) 2 (s'.cn k), vI 200, .string sNone, nilS, .bool false, nilS, .string sNone, nilS, .nilIface] 80) := by rw [hh8, hb4]; exact push_last
    clear hh8
    have x48 := (x6.trans x7).trans x8
    have hb4' : h4.size ≤ b4 := by have := (x6.trans x7).size; omega
    have b18 := x48.at V.blk
    have c68 := (x7.trans x8).at c6
    have hb1lt := (Array.getElem?_eq_some_iff.1 V.blk).1
    refine ⟨x7.trans x8, _, _, _, _, _, _, _, _, _, _, _, _, _, _, _, _, _, _, set_six b18, _, cellsAt_one (cellH_at c68), (widths_c (S4.ext x48) k).mono ?_⟩
    rintro en h9 ⟨bw, cw, gw, x9, ow, rfl⟩
    have hb4lt := (Array.getElem?_eq_some_iff.1 c8).1
    have c9 := x9.at c8
    refine ⟨_, _, _, _, rfl, rfl, wrAt_of c9 (by simp) (.inl (Nat.zero_le _)), ?_⟩
    intro h10 hh10
    have k10 : ∀ q, q ≠ b4 → h10[q]? = h9[q]? := fun q hq => by rw [hh10]; exact setsH_ne hq
    have c10 : h10[b4]? = some (.cells #[.string (nm k), sl (s'.bk k) 1 (s'.ck k), sl (s'.bn k) 2 (s'.cn k), vI 200, .string sNone, nilS, .bool false, sl bw 1 cw, .string sNone, nilS, .nilIface] 80) := by rw [hh10]; exact setsH_at c9
    have x410 : Ext h4 h10 := by rw [hh10]; exact (x48.trans x9).sets hb4' _
    have w10 : cellsAt h10 bw 0 [vI w] := cells_off k10 ow.cellsA (by omega)
    have c610 : h10[h4.size]? = some (.cells (s'.tab k).toArray 73) := by
      have := x9.at c68
      rw [k10 _ (by have := (Array.getElem?_eq_some_iff.1 ((Ext.refl h6).at c6)).1; have := x7.size; omega)]
      exact this
    clear hh10
    refine ⟨_, _, _, _, _, _, _, _, _, _, _, _, _, _, _, _, _, _, set_six (x410.at V.blk), _, cellsAt_one (cellH_at c610), _, cellsAt_one (cellH_at c610), (newList_c (S4.ext x410) k).mono ?_⟩
    rintro en h11 ⟨bl, L, x11, gbl, O11, l11, rfl⟩
    have c11 := x11.at c10
    refine ⟨_, _, rfl, rfl, wrAt_of c11 (by simp) (.inl (Nat.zero_le _)), ?_⟩
    intro h12 hh12
    have k12 : ∀ q, q ≠ b4 → h12[q]? = h11[q]? := fun q hq => by rw [hh12]; exact setsH_ne hq
    have c12 : h12[b4]? = some (.cells (One.cells ⟨b4, s'.bk k, s'.ck k, s'.bn k, s'.cn k, bw, cw, bl, L⟩ k) 80) := by rw [hh12]; exact setsH_at c11
    have x412 : Ext h4 h12 := by rw [hh12]; exact (x410.trans x11).sets hb4' _
    have w12 : cellsAt h12 bw 0 [vI w] := cells_off k12 (x11.cells w10) (by omega)
    clear hh12
    have hb4bl : b4 < bl := by have := (Array.getElem?_eq_some_iff.1 c10).1; omega
    have l12 : h12[bl]? = some (.cells (L.cells k 0 nilS) 144) := (k12 _ (by omega)).trans l11
    have O12 : LOk h12 w k L := by
      refine O11.low k12 (fun i hi => ?_) (fun x e => ?_)
      · rw [cellH_at c12, cellH_at c11]
        match i, hi with
        | 0, _ => rfl
        | 1, _ => rfl
        | 2, _ => rfl
        | 3, _ => rfl
        | 4, _ => rfl
        | 5, _ => rfl
        | 6, _ => rfl
        | 7, _ => rfl
        | 8, _ => rfl
        | 9, _ => rfl
      · rw [cellH_at c11] at e; cases e
    have b12 := x412.at V.blk
    have a12 := V.arr.ext x412
    obtain ⟨lp, lc, rfl⟩ : ∃ lp lc, lv = .slice lp k.toNat lc := by
      rcases V.arr.2 with ⟨e, e2⟩ | ⟨g, cap, cur, e, _⟩
      · exact ⟨none, 0, by rw [e, e2]⟩
      · exact ⟨_, _, e⟩
    refine ⟨_, _, _, cellsAt_one (cellH_at b12), ?_⟩
    refine semH_push row67 a12 (vs := [vP b4]) (m := 1) rfl rfl (by simp) (by simp) (by simp [Value.oneCell']) (by omega) (by simp only [maxLen]; omega) (by have := x412.size; have := x4.size; omega) fun p' c' h14 o14 g14 _ hnew => ?_
    have t12 : ∀ q, (Value.slice lp k.toNat lc).ownBlock = some q → Tag h12 q 74 := fun q hq => a12.blk hq
    have hb1t : Tag h12 b1 69 := ⟨_, b12⟩
    have b14 : h14[b1]? = some (.cells (setC s' (.slice lp k.toNat lc)) 69) := (g14.block b1 (by have := x412.size; omega) (fun e => (hb1t.ne (t12 _ e.symm) (by decide)) rfl)).trans b12
    refine ⟨rfl, wrAt_of b14 (by simp) (.inl (Nat.zero_le _)), ?_⟩
    intro h15 hh15
    have k15 : ∀ q, q ≠ b1 → h15[q]? = h14[q]? := fun q hq => by rw [hh15]; exact setsH_ne hq
    have c15 : h15[b1]? = some (.cells (setC s' (.slice p' (k.toNat + 1) c')) 69) := by rw [hh15]; exact setsH_at b14
    have s15 : h15.size = h14.size := by rw [hh15]; exact setsH_size
    have kk : ∀ q, q < h12.size → q ≠ b1 → (Value.slice lp k.toNat lc).ownBlock ≠ some q → h15[q]? = h12[q]? := fun q h1 h2 h3 => (k15 q h2).trans (g14.block q h1 (fun e => h3 e.symm))
    clear hh15
    have hnoA : ∀ q, (Value.slice lp k.toNat lc).ownBlock = some q → ¬ SIat h12 q := fun q hq => by
      rcases a12.2 with ⟨e, _⟩ | ⟨g, cap, cur, e, _⟩
      · rw [e] at hq; cases hq
      · cases e
        cases hq
        cases k
        · cases V.nil rfl
        · exact noSI_of a12.cellsA.1 rfl
    have K : KeepsSI h12 h15 := fun q hq => kk q (by obtain ⟨v, hv, _⟩ := hq; exact cellH_lt hv) (fun e => noSI_blk b12 rfl rfl (e ▸ hq)) (fun e => hnoA q e hq)
    have hb1s : b1 = h2.size := hb1
    have xx : Ext h2 h15 := by
      have z4 := x4.size
      have z412 := x412.size
      refine ⟨by have := g14.size; omega, fun q hq => ?_⟩
      rw [kk q (by omega) (by omega) (fun e => by have := (a12.lt e).1; omega)]
      exact (x4.trans x412).old q hq
    have t14 : Tag h14 b1 69 := ⟨_, b14⟩
    have hb4lt12 := (Array.getElem?_eq_some_iff.1 c12).1
    have hbllt12 := (Array.getElem?_eq_some_iff.1 l12).1
    refine cnt_next hin (by decide) ⟨.slice p' (k.toNat + 1) c', fun j => if j = k then ⟨b4, s'.bk k, s'.ck k, s'.bn k, s'.cn k, bw, cw, bl, L⟩ else os j, xx, c15, ?_, fun e => by omega, fun j hj => ?_, fun e2 => ?_⟩
    · have e : ptrs (fun j => if j = k then ⟨b4, s'.bk k, s'.ck k, s'.bn k, s'.cn k, bw, cw, bl, L⟩ else os j) (k.toNat + 1) = ptrs os k.toNat ++ [vP b4] := by cases k <;> rfl
      rw [e]
      exact o14.keep fun q hq => k15 q ((show Tag h14 q 74 from o14.blk hq).ne t14 (by decide))
    · by_cases hjk : j = k
      · subst hjk
        simp only [if_true]
        refine ⟨⟨?_, K.cells w12 rfl⟩, LSt.new ?_ (K.lok O12), by have := x4.size; show h2.size ≤ bl; omega⟩
        · have tb : Tag h12 b4 80 := ⟨_, c12⟩
          exact (kk b4 hb4lt12 (tb.ne hb1t (by decide)) (fun e => (tb.ne (t12 _ e) (by decide)) rfl)).trans c12
        · have tb : Tag h12 bl 144 := ⟨_, l12⟩
          exact (kk bl hbllt12 (tb.ne hb1t (by decide)) (fun e => (tb.ne (t12 _ e) (by decide)) rfl)).trans l12
      · have hjl : j.toNat < k.toNat := by cases j <;> cases k <;> simp_all
        simp only [if_neg hjk]
        obtain ⟨o1, l1, g1⟩ := V.one j hjl
        refine ⟨K.one (o1.ext x412), (l1.ext x412).frame K fun q hq => ?_, g1⟩
        rcases hq with rfl | hq | ⟨g, hg, _⟩
        · have T := (l1.ext x412).tagL
          exact kk _ ((l1.ext x412).foot_lt (.inl rfl)) (T.ne hb1t (by decide)) (fun e => (T.ne (t12 _ e) (by decide)) rfl)
        · cases hq
        · cases hg
    · obtain rfl : k = true := by cases k; cases e2; rfl
      have h1 := (V.one false (by decide)).2.1.foot_lt (.inl rfl)
      simp only [if_true, if_neg (show ¬ false = true by decide)]
      omega
  · obtain rfl := cnt_ge hi hge
    have L0 := V.one false (by decide)
    have L1 := V.one true (by decide)
    obtain ⟨lb, lc, rfl⟩ : ∃ lb lc, lv = sl lb 2 lc := by
      rcases V.arr.2 with ⟨_, e⟩ | ⟨g, cap, cur, e, _⟩
      · cases e
      · exact ⟨_, _, e⟩
    refine ⟨((x0.trans x1).trans x2).trans x4, ⟨b1, lb, lc, s', os⟩, ⟨V.blk, S4, V.arr.re1 (Nat.zero_le _), fun k => ?_, fun k => ?_, fun k => ⟨⟨by simp, (fun g hg => by cases hg), by simp⟩, fun x y _ hxy hy => absurd hy (Nat.not_lt_zero _)⟩, ?_⟩, fun k => ?_, rfl⟩
    · cases k
      · exact L0.1
      · exact L1.1
    · cases k
      · exact L0.2.1
      · exact L1.2.1
    · rintro q (h1 | h1 | ⟨g, hg, _⟩) (h2 | h2 | ⟨g', hg', _⟩)
      · exact V.dis rfl (h1.symm.trans h2)
      · cases h2
      · cases hg'
      · cases h1
      · cases h1
      · cases h1
      · cases hg
      · cases hg
      · cases hg
    · have := ((x0.trans x1).trans x2).size
      cases k
      · exact Nat.le_trans this L0.2.2
      · exact Nat.le_trans this L1.2.2
end
end Go.Vc
