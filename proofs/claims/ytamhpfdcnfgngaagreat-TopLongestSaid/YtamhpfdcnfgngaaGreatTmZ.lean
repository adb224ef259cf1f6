/- TopLongest: List.Find, walked. -/
import Derived.Test.YtamhpfdcnfgngaaGreatTmY
set_option maxRecDepth 10000
namespace Go.Vc
open Go Go.Proofs Go.MapKept

abbrev zEnt : Value := .agg #[nilS, vI 0, .string ⟨#[]⟩, nilS]
abbrev hit (w : Nat) (x : B128) (g : Gp) : Bool := hasV (some g) (x &&& msk w g.n)
def Best (w : Nat) (x : B128) (gs : List Gp) (i : Nat) (best : Option Addr) : Prop :=
  (best = none ∧ ∀ j g, j < i → gs[j]? = some g → hit w x g = false) ∨
  (∃ j g r, j < i ∧ gs[j]? = some g ∧ (x &&& msk w g.n, r) ∈ g.rows ∧ best = some ⟨r.b, 0, none⟩ ∧ ∀ j' g', j' < i → gs[j']? = some g' → hit w x g' = true → g'.n ≤ g.n)

section
variable {h : Hp} {w : Nat} {k : Bool} {L : LB} {bl N : Nat} {gv : Value} {gs : List Gp}

theorem Find_c (T : LSt h k w bl L N gv gs) (G0 : Good k gs N) (S0 : Srt gs 0 gs.length) {kb kc : Nat} {x : B128} (hx : cellsAt h kb 0 (bitsL x)) (hv : x &&& onesB w = x) :
    CallsH Tryz.prog 150 #[vP bl, sl kb 1 kc] h fun e h' => Ext h h' ∧
      ((e = .returned (.tuple #[zEnt, .bool false]) ∧ ∀ n y, ¬ Ent gs n (x &&& msk w n) y) ∨
       (∃ n y mp mc ab ac, e = .returned (.tuple #[.agg #[sl mp 1 mc, vI (cond k (n + 1) 0), .string sOut, sl ab 1 ac], .bool true]) ∧ n ≤ w ∧ cellsAt h' mp 0 (mcells k w n (x &&& msk w n)) ∧ cellsAt h' ab 0 [.int .u64 0, vW y] ∧
        Ent gs n (x &&& msk w n) y ∧ ∀ n' y', Ent gs n' (x &&& msk w n') y' → n' ≤ n)) := by
  obtain ⟨gp, gc, hgvf⟩ := T.gv_form
  refine V150 _ _ _ _ h _ ?_
  rintro b0 h0 rfl hh0
  have x0 : Ext h h0 := by rw [hh0]; exact Ext.push _ _
  have c0 : h0[h.size]? = some (.cells (zeros Tryz.prog 53) 53) := by rw [hh0]; exact push_last
  clear hh0
  have T0 := T.ext x0
  refine ⟨info53, fun _ q => Ext h0 q, ⟨false, eqv_ptr (e := 144) (by kernel_rfl) _, (fun hf => by cases hf), fun _ => (key_c T0.ok T0.blk (x0.cells hx)).mono ?_⟩, ?_⟩
  · rintro en h1 ⟨rfl, x1⟩
    refine ⟨_, rfl, fun hf => ?_, fun _ => x1⟩
    rw [decide_eq_true hv] at hf; cases hf
  rintro h2 x2
  have T2 := T0.ext x2
  have hgvc : cellsAt h2 bl (0 + 11) [.slice gp gs.length gc] := by rw [← hgvf]; exact cellsAt_one (cellH_at T2.blk)
  refine ⟨fun vs q => ∃ best, vs = [.pointer best] ∧ Ext h2 q ∧ Best w x gs gs.length best, ⟨bl, 0, rfl, _, _, _, hgvc, fun vs q => ∃ best i, vs = [.pointer best, vI i] ∧ i ≤ gs.length ∧ Ext h2 q ∧ Best w x gs i best, fun vs _ => gs.length - (numAt vs 1).toNat, ⟨none, 0, rfl, Nat.zero_le _, Ext.refl _, .inl ⟨rfl, fun j g hj => absurd hj (Nat.not_lt_zero _)⟩⟩, ?_⟩, ?_⟩
  · rintro best y h3 ⟨best', i, hvs, hi, x3, B⟩
    cases hvs
    have T3 := T2.ext x3
    refine ⟨fun hlt => ?_, fun hge => ?_⟩
    · have hin := cnt_lt hlt
      obtain ⟨g, hg⟩ : ∃ g, gs[i]? = some g := ⟨gs[i], List.getElem?_eq_getElem hin⟩
      have hgm := List.mem_of_getElem? hg
      have G := T3.gp g hgm
      obtain ⟨gb, gcap, hgv2, hptr⟩ := T3.ptr_at hg
      rw [hgvf] at hgv2
      cases hgv2
      have nxt : ∀ q best', Ext h2 q → Best w x gs (i + 1) best' → ∃ x81_, IntKind.i64.wrap ((i : Int) + (1 : Int)) = x81_ ∧
          ((∃ best i, [Value.pointer best', Value.int .i64 x81_] = [.pointer best, vI i] ∧ i ≤ gs.length ∧ Ext h2 q ∧ Best w x gs i best) ∧ gs.length - (numAt [Value.pointer best', Value.int .i64 x81_] 1).toNat < gs.length - (numAt [Value.pointer best, Value.int .i64 (i : Int)] 1).toNat) := fun q best' xq Bq =>
        ⟨((i + 1 : Nat) : Int), incI (by have := T.arr.max; omega), ⟨best', i + 1, rfl, hin, xq, Bq⟩, by simp only [numAt]; omega⟩
      refine ⟨gb, 0, rfl, by omega, by omega, _, hptr h3 (Ext.refl _), fun _ q => q = h3, ?_, ?_⟩
      · rcases B with ⟨rfl, hno⟩ | ⟨j, g2, r, hj, hg2, hr, rfl, hbest⟩
        · exact ⟨false, ⟨true, eqv_nil (e := 53) (by kernel_rfl), (fun hf => by cases hf), fun _ => ⟨rfl, rfl⟩⟩, (fun hf => by cases hf), fun _ => rfl⟩
        · have G2 := T3.gp g2 (List.mem_of_getElem? hg2)
          have R2 := (G2.row _ hr).2
          refine ⟨decide (g.gr < ((cond k (g2.n + 1) 0 : Nat) : Int)), ⟨false, eqv_ptr (e := 53) (by kernel_rfl) _, fun _ => ⟨g.bg, 0, rfl, _, cellsAt_one (cellH_at G.blk), r.b, 0, rfl, _, ⟨R2.own.cellsA.2.1, trivial⟩, rfl, rfl⟩, (fun hf => by cases hf)⟩, fun hb => ?_, fun _ => rfl⟩
          refine ⟨_, rfl, x3, .inr ⟨j, g2, r, by omega, hg2, hr, rfl, fun j' g' hj' hg' hh => ?_⟩⟩
          rcases Nat.lt_or_ge j' i with h1 | h1
          · exact hbest j' g' h1 hg' hh
          · have hb := of_decide_eq_true hb
            have s1 : g'.gr ≤ g.gr := by
              have e1 : ga gs i = g := by have := ga_at hin; rw [hg] at this; exact (Option.some.inj this).symm
              have e2 : ga gs j' = g' := by have := ga_at hj'; rw [hg'] at this; exact (Option.some.inj this).symm
              rcases Nat.lt_or_eq_of_le h1 with h3 | rfl
              · have := S0 i j' (Nat.zero_le _) h3 hj'; rw [e1, e2] at this; exact this
              · rw [← e1, ← e2]; exact Int.le_refl _
            rw [(G0.ok g' (List.mem_of_getElem? hg')).2.2] at s1
            cases k
            · simp only [cond_false] at hb s1; omega
            · simp only [cond_true] at hb s1; omega
      · rintro h4 rfl
        refine ⟨g.bg, 0, rfl, _, _, _, cellsAt_one (cellH_at G.blk), (leftOf_c T3.ok T3.blk G.shp G.nw ((x0.trans (x2.trans x3)).cells hx)).mono ?_⟩
        rintro en h5 ⟨rfl, x5⟩
        refine ⟨_, _, _, _, _, _, _, _, _, _, _, _, _, _, _, _, _, rfl, ?_⟩
        rintro b6 h6 rfl rfl
        have x6 := Ext.push h5 (.cells (zeros Tryz.prog 241) 241)
        refine ⟨info241, stoT (n := 16) x6 (Nat.le_refl _) push_last rfl rfl (by simp [Value.oneCell']) fun h7 x7 z7 c7 k7 => ?_⟩
        have x37 := x3.trans (x5.trans x7)
        have T7 := T2.ext x37
        have G7 := T7.gp g hgm
        refine ⟨g.bg, 0, rfl, _, cellsAt_one (cellH_at G7.blk), _, _, _, _, _, _, _, _, _, _, _, _, _, _, _, _, cellsAt_all c7, ?_⟩
        refine G7.look (x &&& msk w g.n) (fun hno => ?_) fun r hr hyes => ?_
        · refine ⟨_, _, _, rfl, fun _ => ⟨fun hf => absurd hf (by decide), fun _ => nxt _ _ x37 ?_⟩, (fun hf => by cases hf)⟩
          rcases B with ⟨rfl, hno2⟩ | ⟨j, g2, r2, hj, hg2, hr2, rfl, hbest⟩
          · refine .inl ⟨rfl, fun j g' hj hg' => ?_⟩
            rcases Nat.lt_succ_iff_lt_or_eq.1 hj with h1 | rfl
            · exact hno2 j g' h1 hg'
            · rw [hg] at hg'; cases hg'; exact hno
          · refine .inr ⟨j, g2, r2, by omega, hg2, hr2, rfl, fun j' g' hj' hg' hh => ?_⟩
            rcases Nat.lt_succ_iff_lt_or_eq.1 hj' with h1 | rfl
            · exact hbest j' g' h1 hg' hh
            · rw [hg] at hg'; cases hg'; rw [hit, hno] at hh; cases hh
        · have R := (G7.row _ hr).2
          refine ⟨_, _, _, rfl, fun _ => ⟨fun _ => ?_, fun hf => absurd hf (by decide)⟩, (fun hf => by cases hf)⟩
          rcases B with ⟨rfl, hno2⟩ | ⟨j, g2, r2, hj, hg2, hr2, rfl, hbest⟩
          · refine ⟨true, eqv_nil (e := 53) (by kernel_rfl), fun _ => ⟨r.b, 0, rfl, by decide, by decide, nxt _ _ x37 (.inr ⟨i, g, r, by omega, hg, hr, rfl, fun j' g' hj' hg' hh => ?_⟩)⟩, (fun hf => by cases hf)⟩
            rcases Nat.lt_succ_iff_lt_or_eq.1 hj' with h1 | rfl
            · rw [hno2 j' g' h1 hg'] at hh; cases hh
            · rw [hg] at hg'; cases hg'; exact Nat.le_refl _
          · have R2 := ((T7.gp g2 (List.mem_of_getElem? hg2)).row _ hr2).2
            refine ⟨false, eqv_ptr (e := 53) (by kernel_rfl) _, (fun hf => by cases hf), fun _ => ⟨r.b, 0, rfl, by decide, by decide, _, _, _, _, _, _, _, _, R.own.cellsA, r2.b, 0, rfl, _, _, _, _, _, _, _, _, R2.own.cellsA, (Order_c R.hm R2.hm).mono ?_⟩⟩
            rintro en h9 ⟨rfl, x9⟩
            have hne : g.n ≠ g2.n := fun e => by have := nodup_at G0.nd hg hg2 e; omega
            refine ⟨_, rfl, fun hc => ⟨r.b, 0, rfl, by decide, by decide, nxt _ _ (x37.trans x9) (.inr ⟨i, g, r, by omega, hg, hr, rfl, fun j' g' hj' hg' hh => ?_⟩)⟩, fun hc => nxt _ _ (x37.trans x9) (.inr ⟨j, g2, r2, by omega, hg2, hr2, rfl, fun j' g' hj' hg' hh => ?_⟩)⟩
            · have hlt : g2.n < g.n := by
                rcases Nat.lt_or_ge g2.n g.n with h1 | h1
                · exact h1
                · rw [cmpE_gt (by omega)] at hc; exact absurd hc (by decide)
              rcases Nat.lt_succ_iff_lt_or_eq.1 hj' with h1 | rfl
              · have := hbest j' g' h1 hg' hh; omega
              · rw [hg] at hg'; cases hg'; exact Nat.le_refl _
            · have hlt : g.n < g2.n := by
                rcases Nat.lt_or_ge g.n g2.n with h1 | h1
                · exact h1
                · rw [cmpE_lt (by omega)] at hc; exact absurd hc (by decide)
              rcases Nat.lt_succ_iff_lt_or_eq.1 hj' with h1 | rfl
              · exact hbest j' g' h1 hg' hh
              · rw [hg] at hg'; cases hg'; omega
    · obtain rfl := cnt_ge hi hge
      exact ⟨_, rfl, x3, B⟩
  · rintro best h10 ⟨best', hvs, x10, B⟩
    cases hvs
    have c10 := (x2.trans x10).at c0
    have x010 := (x0.trans x2).trans x10
    rcases B with ⟨rfl, hno⟩ | ⟨j, g, r, hj, hg, hr, rfl, hbest⟩
    · refine ⟨true, eqv_nil (e := 53) (by kernel_rfl), fun _ => stoT (n := 4) x010 (Nat.le_refl _) c10 rfl z53_size (by simp [Value.oneCell']) fun q xq zq cq kq => ⟨_, _, _, _, _, _, _, _, cellsAt_all cq, xq, .inl ⟨rfl, ?_⟩⟩, (fun hf => by cases hf)⟩
      rintro n y ⟨g, hg, rfl, p, hp, hpv, rfl⟩
      obtain ⟨j, hj⟩ := List.getElem?_of_mem hg
      have := hno j g (List.getElem?_eq_some_iff.1 hj).1 hj
      simp only [hit, hasV, List.any_eq_false, decide_eq_true_eq] at this
      exact this p hp hpv
    · have T10 := T2.ext x10
      have hgm := List.mem_of_getElem? hg
      have G := T10.gp g hgm
      have R := (G.row _ hr).2
      refine ⟨false, eqv_ptr (e := 53) (by kernel_rfl) _, (fun hf => by cases hf), fun _ => ⟨r.b, 0, rfl, _, _, _, _, _, _, _, _, R.own.cellsA, (copied_c R.hm R.ha).mono ?_⟩⟩
      rintro en h12 ⟨mp, mc, ab, ac, g1, g2, x12, m12, a12, rfl⟩
      have hlt := (Array.getElem?_eq_some_iff.1 c10).1
      refine ⟨_, _, _, _, _, _, _, _, rfl, stoT (n := 4) (x010.trans x12) (Nat.le_refl _) (x12.at c10) rfl z53_size (by simp [Value.oneCell']) fun q xq zq cq kq => ⟨_, _, _, _, _, _, _, _, cellsAt_all cq, xq, .inr ⟨g.n, r.y, mp, mc, ab, ac, rfl, G.nw, cells_off kq m12 (by omega), cells_off kq a12 (by omega), ⟨g, hgm, rfl, _, hr, rfl, rfl⟩, ?_⟩⟩⟩
      rintro n' y' ⟨g', hg', rfl, p, hp, hpv, rfl⟩
      obtain ⟨j', hj'⟩ := List.getElem?_of_mem hg'
      refine hbest j' g' (List.getElem?_eq_some_iff.1 hj').1 hj' ?_
      simp only [hit, hasV, List.any_eq_true, decide_eq_true_eq]
      exact ⟨p, hp, hpv⟩
end
end Go.Vc
