/- TopLongest: where an entry has its place. -/
import Derived.Test.YtamhpfdcnfgngaaGreatTmP
set_option maxRecDepth 10000
namespace Go.Vc
open Go Go.Proofs Go.MapKept

section
variable {h : Hp} {w : Nat} {k : Bool} {L : LB} {bl N : Nat} {gv : Value} {gs : List Gp}

theorem cnt_nextL {n i : Nat} {A : Nat → Hp → Prop} {hp hp' : Hp} (hi : i < n) (hn : n ≤ 9223372036854775807) (a : A (i + 1) hp') :
    ∃ x, IntKind.i64.wrap ((i : Int) + (1 : Int)) = x ∧ (cntI n A [Value.int .i64 x] hp' ∧ cntM n [Value.int .i64 x] hp' < cntM n [Value.int .i64 (i : Int)] hp) := by
  refine ⟨((i + 1 : Nat) : Int), by rw [IntKind.wrap_i64]; omega, ⟨i + 1, hi, rfl, a⟩, ?_⟩
  simp only [cntM, numAt]; omega

theorem search_nil {mp mc n : Nat} {p : Int} {act : ByteArray} {ap : Option Addr} {an ac : Nat} {f : Value} : CallsH Tryz.prog 170 #[nilS, .agg #[sl mp 1 mc, .int .i64 p, .string act, .slice ap an ac], f] h (RetX (.tuple #[vI 0, .bool false]) h) := by
  refine V170 _ _ _ _ _ _ _ _ _ _ _ _ h _ ?_
  rintro b0 h0 rfl rfl
  have x0 := Ext.push h (.cells #[sl mp 1 mc, .int .i64 p, .string act, .slice ap an ac] 53)
  refine ⟨fun vs q => vs = [vI 0, vI 0] ∧ Ext h q, fun _ _ => 0, ⟨rfl, x0⟩, ?_⟩
  rintro i j h1 ⟨hv, x1⟩
  cases hv
  exact ⟨fun hf => absurd hf (by decide), fun _ => ⟨fun hf => absurd hf (by decide), fun _ => ⟨rfl, x1⟩⟩⟩
theorem search_one {mp mc n : Nat} {v : B128} {r : Rw} {act : ByteArray} {ap : Option Addr} {an ac : Nat} (R : RowAt h k w n v r) (hm : cellsAt h mp 0 (mcells k w n v)) :
    CallsH Tryz.prog 170 #[sl r.b 1 r.c, .agg #[sl mp 1 mc, vI (cond k (n + 1) 0), .string act, .slice ap an ac], .func (.func 163) #[] #[]] h (RetX (.tuple #[vI 0, .bool true]) h) := by
  refine V170 _ _ _ _ _ _ _ _ _ _ _ _ h _ ?_
  rintro b0 h0 rfl rfl
  have x0 := Ext.push h (.cells #[sl mp 1 mc, vI (cond k (n + 1) 0), .string act, .slice ap an ac] 53)
  have c0 := push_last (h := h) (o := .cells #[sl mp 1 mc, vI (cond k (n + 1) 0), .string act, .slice ap an ac] 53)
  generalize h.push (.cells #[sl mp 1 mc, vI (cond k (n + 1) 0), .string act, .slice ap an ac] 53) = h0 at *
  have hor : ∀ q, Ext h0 q → CallsH Tryz.prog 163 ((#[] : Array Value).toList ++ [Value.agg #[sl r.mp 1 r.mc, vI (cond k (n + 1) 0), .string sOut, sl r.ab 1 r.ac], Value.agg #[sl mp 1 mc, vI (cond k (n + 1) 0), .string act, .slice ap an ac]] ++ (#[] : Array Value).toList).toArray q (RetX (vZ 0) q) := fun q xq => by
    have := Order_c (h := q) (k := k) (w := w) (n1 := n) (n2 := n) (v1 := v) (v2 := v) (act1 := sOut) (act2 := act) (p1 := some ⟨r.ab, 0, none⟩) (m1 := 1) (q1 := r.ac) (p2 := ap) (m2 := an) (q2 := ac) (ac := r.mc) (bc := mc) ((x0.trans xq).cells R.hm) ((x0.trans xq).cells hm)
    rw [cmpE_self] at this
    exact this
  refine ⟨fun vs q => (vs = [vI 0, vI 1] ∨ vs = [vI 0, vI 0]) ∧ Ext h0 q, fun vs _ => (numAt vs 1).toNat, ⟨.inl rfl, Ext.refl _⟩, ?_⟩
  rintro i j h1 ⟨hv | hv, x1⟩ <;> cases hv
  · refine ⟨fun _ => ⟨1, by decide, 1, by decide, by decide, 0, by decide, 0, by decide, r.b, 0, rfl, by decide, by decide, _, _, _, _, _, _, _, _, (x0.trans x1).cells R.own.cellsA, _, _, _, _, _, _, _, _, cellsAt_all (x1.at c0), 163, #[], #[], rfl, by kernel_rfl, (hor h1 x1).mono ?_⟩, fun hf => absurd hf (by decide)⟩
    rintro en h2 ⟨rfl, x2⟩
    exact ⟨_, rfl, fun hf => absurd hf (by decide), fun _ => ⟨⟨.inr rfl, x1.trans x2⟩, show 0 < 1 by decide⟩⟩
  · refine ⟨fun hf => absurd hf (by decide), fun _ => ⟨fun _ => ⟨r.b, 0, rfl, by decide, by decide, _, _, _, _, _, _, _, _, (x0.trans x1).cells R.own.cellsA, _, _, _, _, _, _, _, _, cellsAt_all (x1.at c0), 163, #[], #[], rfl, by kernel_rfl, (hor h1 x1).mono ?_⟩, fun hf => absurd hf (by decide)⟩⟩
    rintro en h2 ⟨rfl, x2⟩
    exact ⟨_, rfl, rfl, (x0.trans x1).trans x2⟩

theorem LB.six {h : Hp} {bl : Nat} {L : LB} {k : Bool} {N : Nat} {g : Value} (c : h[bl]? = some (.cells (L.cells k N g) 144)) : cellsAt h bl (0 + 0) [nilS, sl L.s.bm 1 L.s.cm, nilS, sl L.s.ba 2 L.s.ca, sl L.s.bt 2 L.s.ct, nilS] :=
  ⟨cellH_at c, cellH_at c, cellH_at c, cellH_at c, cellH_at c, cellH_at c, trivial⟩

def findG (gs : List Gp) (n : Nat) : Option Gp := gs.find? fun g => decide (g.n = n)
def hasV : Option Gp → B128 → Bool
  | none, _ => false
  | some g, v => g.rows.any fun p => decide (p.1 = v)
def gpP : Option Gp → Value
  | none => .pointer none
  | some g => vP g.bg

theorem LSt.ptr_at (T : LSt h k w bl L N gv gs) {i : Nat} {g : Gp} (hi : gs[i]? = some g) : ∃ gb gc, gv = sl gb gs.length gc ∧ ∀ q, Ext h q → cellsAt q gb (0 + Int.toNat (i : Int) * 1) [vP g.bg] := by
  have him := (List.getElem?_eq_some_iff.1 hi).1
  rcases T.arr.2 with ⟨_, hh⟩ | ⟨gb, cap, cur, hv, _⟩
  · rw [hh] at him; simp at him
  · refine ⟨gb, cap, hv, fun q x => cellsAt_one ?_⟩
    have o := T.arr
    rw [hv] at o
    have := cellsAt_iff.1 (x.cells o.cellsA) i (by simpa using him)
    rw [Int.toNat_natCast, Nat.mul_one, this, List.getElem_map, (List.getElem?_eq_some_iff.1 hi).2]

theorem GpAt.look {g : Gp} (G : GpAt h k w g) (v : B128) {R : Value → Hp → Prop} (h0 : hasV (some g) v = false → R nilS h) (h1 : ∀ r, (v, r) ∈ g.rows → hasV (some g) v = true → R (sl r.b 1 r.c) h) :
    SemH Tryz.prog (Instr.lookup 244 (.map (some g.br)) (idV v) false) h R := by
  refine semH_lookupW mapG G.map (fun x hx => ?_) (key_id v) (fun hno => h0 ?_) fun u j hj => ?_
  · obtain ⟨p, _, rfl⟩ := List.mem_map.1 hx
    exact key_id _
  · simp only [hasV, List.any_eq_false, decide_eq_true_eq]
    rintro p hp rfl
    exact hno (idV p.1, _) (List.mem_map.2 ⟨p, hp, rfl⟩) rfl
  · rw [Gp.ents, List.getElem?_map] at hj
    cases hp : g.rows[j]? with
    | none => rw [hp] at hj; cases hj
    | some p =>
      rw [hp] at hj
      simp only [Option.map_some, Option.some.injEq, Prod.mk.injEq] at hj
      obtain ⟨e1, rfl⟩ := hj
      obtain rfl := idV_inj e1
      have hm := List.mem_of_getElem? hp
      exact h1 p.2 hm (by simp only [hasV, List.any_eq_true, decide_eq_true_eq]; exact ⟨p, hm, rfl⟩)

theorem place_c (T : LSt h k w bl L N gv gs) {mp mc n : Nat} {v : B128} {act : ByteArray} {ap : Option Addr} {an ac : Nat} (hm : cellsAt h mp 0 (mcells k w n v)) (hn : n ≤ w) (hv : v &&& msk w n = v) :
    CallsH Tryz.prog 157 #[vP bl, .agg #[sl mp 1 mc, vI (cond k (n + 1) 0), .string act, .slice ap an ac]] h (RetX (.tuple #[gpP (findG gs n), idV v, vI 0, .bool (hasV (findG gs n) v)]) h) := by
  refine V157 _ _ _ _ _ _ _ _ _ h _ ?_
  rintro b0 h0 rfl rfl b1 h1 hb1 hh1
  refine ⟨info241, ?_⟩
  have x1 : Ext h h1 := by rw [hh1]; exact (Ext.push _ _).box _
  have c0 : h1[h.size]? = some (.cells #[sl mp 1 mc, vI (cond k (n + 1) 0), .string act, .slice ap an ac] 53) := by rw [hh1]; exact (Ext.push _ _).at push_last
  have c1 : h1[b1]? = some (.cells (idL 0).toArray 241) := by rw [hh1, hb1, ← z241]; exact push_last
  have n1 : b1 = h.size + 1 := by rw [hb1]; simp
  clear hh1 hb1
  have T1 := T.ext x1
  refine ⟨bl, 0, rfl, _, _, _, _, _, _, _, _, _, _, _, _, _, _, _, _, _, _, LB.six T1.blk, bl, 0, rfl, _, cellsAt_one (cellH_at T1.blk), _, _, _, _, _, _, _, _, cellsAt_all c0, (Who_c T1.ok.S (x1.cells hm) hn hv).mono ?_⟩
  rintro en h2 ⟨rfl, x2⟩
  refine ⟨_, rfl, fun hf => absurd hf (by decide), fun _ => ⟨_, _, _, _, _, _, _, _, cellsAt_all (x2.at c0), (shape_c (T1.ext x2).ok (T1.ext x2).blk ((x1.trans x2).cells hm)).mono ?_⟩⟩
  rintro en h3 ⟨bs, cs, _, x3, hs, rfl⟩
  have x13 := x2.trans x3
  have hm3 := (x1.trans x13).cells hm
  refine ⟨_, _, _, rfl, _, _, _, cellsAt_one (cellH_at (x13.at c0)), fun vs q => Ext h3 q ∧ ((vs = [nilS, vI 0]) ∨ ∃ b c, vs = [sl b 1 c, vI 1] ∧ cellsAt q b 0 (bitsL v)), fun vs _ => 1 - (numAt vs 1).toNat, ⟨Ext.refl _, .inl rfl⟩, ?_⟩
  rintro kp kn kc i h4 ⟨x4, hv4⟩
  rcases hv4 with hv4 | ⟨kb, kc', hv4, hkb⟩
  · cases hv4
    refine ⟨fun _ => ⟨mp, 0, rfl, by decide, by decide, _, _, _, _, _, x4.cells hm3, ?_⟩, fun hf => absurd hf (by decide)⟩
    rintro b5 h5 rfl rfl
    have x5 := x4.box (.cells (zeros Tryz.prog 50) 50)
    refine ⟨info50, stoT (n := 5) x5 x4.size push_last rfl z50_size (by simp [Value.oneCell']) fun h6 x6 z6 c6 k6 => ⟨_, _, bits_of c6 rfl rfl, ?_⟩⟩
    refine semH_pushS row23 (by decide) (Own.nil h6 h6.size 40 2) (r := bitsL v) rfl rfl (by decide) (by simp [Value.oneCell']) (by decide) (by decide) (Nat.le_refl _) fun p' c' h7 o7 g7 _ _ => ?_
    have x7 : Ext h6 h7 := ⟨g7.size, fun q hq => g7.block q hq (by simp [Value.ownBlock])⟩
    obtain ⟨bp, rfl⟩ : ∃ bp, p' = some ⟨bp, 0, none⟩ := by
      rcases o7.2 with ⟨_, hh⟩ | ⟨g, cap, cur, hv, _⟩
      · cases hh
      · cases hv; exact ⟨g, rfl⟩
    exact ⟨1, by decide, ⟨x6.trans x7, .inr ⟨bp, c', rfl, o7.cellsA⟩⟩, show 0 < 1 by decide⟩
  · cases hv4
    refine ⟨fun hf => absurd hf (by decide), fun _ => ?_⟩
    have T4 := T1.ext (x13.trans x4)
    refine (leftOf_c T4.ok T4.blk (x4.cells hs) hn hkb).mono ?_
    rintro en h9 ⟨rfl, x9⟩
    rw [hv]
    refine ⟨_, _, _, _, _, _, _, _, _, _, _, _, _, _, _, _, _, rfl, ?_⟩
    rintro b6 h10 rfl rfl
    have x10 := Ext.push h9 (.cells (zeros Tryz.prog 241) 241)
    refine ⟨info241, stoT (n := 16) x10 (Nat.le_refl _) push_last rfl rfl (by simp [Value.oneCell']) fun h11 x11 z11 c11 k11 => ?_⟩
    have x19 := x13.trans (x4.trans x9)
    have x111 := x19.trans x11
    have T11 := T1.ext x111
    have c1' := x111.at c1
    have hb6 : h9.size ≠ b1 := by have := (Array.getElem?_eq_some_iff.1 (x19.at c1)).1; omega
    have c0' := x111.at c0
    have hm11 := (x1.trans x111).cells hm
    have hs11 := (x4.trans (x9.trans x11)).cells hs
    have hb1h := n1
    refine ⟨bl, 0, rfl, ?_⟩
    have hgv : ∃ gp gn gc, gv = .slice gp gn gc ∧ gn = gs.length := by
      rcases T.arr.2 with ⟨e1, e2⟩ | ⟨gb, cap, cur, e1, _⟩
      · exact ⟨_, _, _, e1, e2.symm⟩
      · exact ⟨_, _, _, e1, rfl⟩
    obtain ⟨gp, gn, gc, hgv, rfl⟩ := hgv
    have hgvc : cellsAt h11 bl (0 + 11) [.slice gp gs.length gc] := by rw [← hgv]; exact cellsAt_one (cellH_at T11.blk)
    refine ⟨gp, _, gc, hgvc, cntI gs.length fun i q => Ext h11 q ∧ ∀ j g, j < i → gs[j]? = some g → g.n ≠ n, cntM gs.length, cnt_0 ⟨Ext.refl _, fun j g hj => absurd hj (Nat.not_lt_zero _)⟩, ?_⟩
    rintro y h12 ⟨i, hi, hvi, x12, hno⟩
    cases hvi
    have T12 := T11.ext x12
    have c1'' := x12.at c1'
    refine ⟨fun hlt => ?_, fun hge => ?_⟩
    · have hin := cnt_lt hlt
      obtain ⟨g, hg⟩ : ∃ g, gs[i]? = some g := ⟨gs[i], List.getElem?_eq_getElem hin⟩
      have G := T12.gp g (List.mem_of_getElem? hg)
      obtain ⟨gb, gcap, hgv2, hptr⟩ := T12.ptr_at hg
      rw [hgv] at hgv2
      cases hgv2
      refine ⟨gb, 0, rfl, by omega, by omega, _, hptr h12 (Ext.refl _), g.bg, 0, rfl, _, _, _, cellsAt_one (cellH_at G.blk), (equal_c G.shp (x12.cells hs11)).mono ?_⟩
      rintro en h13 ⟨rfl, rfl⟩
      rw [sameM_eq T.ok.S.w2 G.nw hn]
      refine ⟨_, rfl, fun heq => ?_, fun hne => ?_⟩
      · have hgn : g.n = n := of_decide_eq_true heq
        have hfind : findG gs n = some g := by
          unfold findG
          rw [List.find?_eq_some_iff_getElem]
          refine ⟨by simpa using hgn, i, hin, (List.getElem?_eq_some_iff.1 hg).2, fun j hj => ?_⟩
          have := hno j gs[j] hj (List.getElem?_eq_getElem (by omega))
          simpa using this
        refine ⟨fun q => Ext h13 q, Ext.refl _, g.bg, 0, rfl, _, cellsAt_one (cellH_at G.blk), _, _, _, _, _, _, _, _, _, _, _, _, _, _, _, _, cellsAt_all (x12.at c11), ?_⟩
        have fin : ∀ is, is = hasV (some g) v → ∀ q, Ext h13 q → List.length (idL v) = 16 ∧ (∀ c ∈ idL v, c.oneCell' = true) ∧ wrAt q b1 0 16 ∧ ∀ hp_16, hp_16 = setsH q b1 0 (idL v) →
            ∃ resf0_ : Int, ∃ resf1_ : Int, ∃ resf2_ : Int, ∃ resf3_ : Int, ∃ resf4_ : Int, ∃ resf5_ : Int, ∃ resf6_ : Int, ∃ resf7_ : Int, ∃ resf8_ : Int, ∃ resf9_ : Int, ∃ resf10_ : Int, ∃ resf11_ : Int, ∃ resf12_ : Int, ∃ resf13_ : Int, ∃ resf14_ : Int, ∃ resf15_ : Int, cellsAt hp_16 b1 0 [(Value.int .u64 resf0_), (Value.int .u64 resf1_), (Value.int .u64 resf2_), (Value.int .u64 resf3_), (Value.int .u64 resf4_), (Value.int .u64 resf5_), (Value.int .u64 resf6_), (Value.int .u64 resf7_), (Value.int .u64 resf8_), (Value.int .u64 resf9_), (Value.int .u64 resf10_), (Value.int .u64 resf11_), (Value.int .u64 resf12_), (Value.int .u64 resf13_), (Value.int .u64 resf14_), (Value.int .u64 resf15_)] ∧
            RetX (.tuple #[gpP (findG gs n), idV v, vI 0, .bool (hasV (findG gs n) v)]) h (.returned (Value.tuple #[vP g.bg, (Value.agg #[(Value.int .u64 resf0_), (Value.int .u64 resf1_), (Value.int .u64 resf2_), (Value.int .u64 resf3_), (Value.int .u64 resf4_), (Value.int .u64 resf5_), (Value.int .u64 resf6_), (Value.int .u64 resf7_), (Value.int .u64 resf8_), (Value.int .u64 resf9_), (Value.int .u64 resf10_), (Value.int .u64 resf11_), (Value.int .u64 resf12_), (Value.int .u64 resf13_), (Value.int .u64 resf14_), (Value.int .u64 resf15_)]), (Value.int .i64 0), (Value.bool is)])) hp_16 := by
          rintro _ rfl q xq
          refine stoT (h := h) (n := 16) ((x1.trans x111).trans (x12.trans xq)) (by omega) (xq.at c1'') rfl rfl (by simp [Value.oneCell']) fun q2 x2 z2 c2 k2 => ⟨_, _, _, _, _, _, _, _, _, _, _, _, _, _, _, _, cellsAt_all c2, ?_, x2⟩
          rw [hfind]; rfl
        refine G.look v (fun hf => ?_) fun r hr hf => ?_
        · refine ⟨_, _, _, rfl, Ext.refl _, _, _, _, _, _, _, _, _, fun q xq => cellsAt_all (xq.at (x12.at c0')), (search_nil (n := n)).mono ?_⟩
          rintro en h15 ⟨rfl, x15⟩
          exact ⟨_, _, rfl, x15, _, _, _, _, _, _, _, _, _, _, _, _, _, _, _, _, cellsAt_all ((x12.trans x15).at c11), fin false hf.symm h15 x15⟩
        · have R := (G.row _ hr).2
          rw [hgn] at R
          refine ⟨_, _, _, rfl, Ext.refl _, _, _, _, _, _, _, _, _, fun q xq => cellsAt_all (xq.at (x12.at c0')), (search_one R (x12.cells hm11)).mono ?_⟩
          rintro en h15 ⟨rfl, x15⟩
          exact ⟨_, _, rfl, x15, _, _, _, _, _, _, _, _, _, _, _, _, _, _, _, _, cellsAt_all ((x12.trans x15).at c11), fin true hf.symm h15 x15⟩
      · refine cnt_nextL hin T.arr.max ⟨x12, fun j g' hj hg' => ?_⟩
        rcases Nat.lt_succ_iff_lt_or_eq.1 hj with h1 | rfl
        · exact hno j g' h1 hg'
        · rw [hg] at hg'; cases hg'; exact of_decide_eq_false hne
    · obtain rfl := cnt_ge hi hge
      have hfind : findG gs n = none := by
        unfold findG
        rw [List.find?_eq_none]
        intro g hg
        obtain ⟨j, hj⟩ := List.getElem?_of_mem hg
        have := hno j g (List.getElem?_eq_some_iff.1 hj).1 hj
        simpa using this
      refine ⟨_, _, _, _, _, _, _, _, _, _, _, _, _, _, _, _, cellsAt_all (x12.at c11), stoT (h := h) (n := 16) ((x1.trans x111).trans x12) (by omega) c1'' rfl rfl (by simp [Value.oneCell']) fun q2 x2 z2 c2 k2 => ⟨_, _, _, _, _, _, _, _, _, _, _, _, _, _, _, _, cellsAt_all c2, ?_, x2⟩⟩
      rw [hfind]; rfl
end
end Go.Vc
