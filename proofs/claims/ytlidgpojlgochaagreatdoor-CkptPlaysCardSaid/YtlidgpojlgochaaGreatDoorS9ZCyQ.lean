import Derived.Test.YtlidgpojlgochaaGreatDoorS9ZCyC
import Derived.Test.YtlidgpojlgochaaGreatDoorS9ZCkR
set_option maxRecDepth 10000
/- CkptPlays: a script's calls; the walk. -/
namespace Go.Vc
open Go Go.Proofs Go.MapKept

section
variable {B1 B2 : Nat → Prop} {h g h' : Hp} {d q : Nat} {σ τ σ' τ' : DS}

theorem Two.both {h2 h3 : Hp} (t : Two B1 B2 h d q σ τ) (y2 : Same B1 h h2) (D2 : DiskAt dI h2 B1 d σ') (y3 : Same B2 h2 h3) (D3 : RefAt rI h3 B2 q τ') (r : Rds σ' τ') : Two B1 B2 h3 d q σ' τ' ∧ Same (Or2 B1 B2) h h3 :=
  ⟨⟨D2.other y3 fun b h1 h2 => t.dis b h1 h2, D3, r, t.dis, t.n0⟩, y2.left.trans y3.right fun _ hb _ => hb⟩

set_option maxHeartbeats 1000000 in
/-- turnoutlaw20.pair.play -/
theorem play_c (t : Two B1 B2 h d q σ τ) (hh : Halves h) (o : COp) (ok : o.Ok h) (hm : σ.safe.length ≤ 14) (hl : σ.pend.length ≤ 2199023250000) (hB : ∀ b i, o.fp = some ⟨b, i, none⟩ → o.fates ≠ [] → ¬ Or2 B1 B2 b) :
    CallsH Tryz.prog 8 #[.agg #[vP d, vP q], .agg (copV o).toArray] h fun e h' => ∃ σ' τ', TwoTo B1 B2 h h' d q σ' τ' ∧ (∀ N, Bd N σ → Bd (N + 1) σ') ∧ e = .returned (.bool true) := by
  refine V8 _ _ _ _ _ _ _ _ _ _ _ _ _ _ h _ ?_
  intro b g1 hb e1
  have x1 : Ext h g1 := by rw [e1]; exact Ext.push _ _
  have c1 : g1[b]? = some (.cells #[vP d, vP q] 34) := by rw [e1, hb]; exact push_last
  clear e1
  intro b1 g2 hb1 e2
  have x2 : Ext g1 g2 := by rw [e2]; exact Ext.push _ _
  have k2 : g2[b1]? = some (.cells (copV o).toArray 42) := by rw [e2, hb1]; exact push_last
  clear e2
  have c2 := (x2.old b (Array.getElem?_eq_some_iff.1 c1).1).trans c1
  have x02 := x1.trans x2
  have t2 := t.ext x02
  have hh2 := hh.ext x02
  have s1 := x1.size
  have nb : ¬ Or2 B1 B2 b := Or2.ne t (by omega)
  have nb1 : ¬ Or2 B1 B2 b1 := Or2.ne t (by omega)
  have lb := (Array.getElem?_eq_some_iff.1 c2).1
  have lb1 := (Array.getElem?_eq_some_iff.1 k2).1
  have ok2 : o.Ok g2 := ⟨ok.n0, ok.n1, ok.on0, ok.on1, ok.hd, ok.seg.ext x02⟩
  have K : ∀ {gq : Hp}, Same (Or2 B1 B2) g2 gq → gq[b]? = some (.cells #[vP d, vP q] 34) ∧ gq[b1]? = some (.cells (copV o).toArray 42) := fun y => ⟨(y.old b lb nb).trans c2, (y.old b1 lb1 nb1).trans k2⟩
  have pl : ∀ {gq : Hp}, gq[b]? = some (.cells #[vP d, vP q] 34) → cellsAt gq b 0 [vP d, vP q] := fun c => cellsAt_all (vs := [vP d, vP q]) c
  have ol : cellsAt g2 b1 0 (copV o) := cellsAt_all k2
  refine ⟨o.kind, cellsAt_one (cellH_at k2), fun _ => ?_, fun _ => ⟨fun _ => ?_, fun _ => ⟨fun _ => ?_, fun _ => ⟨fun _ => ?_, fun _ => ⟨fun _ => ?_, fun _ => ⟨fun _ => ?_, fun _ => ⟨fun _ => ?_, fun _ => ⟨fun _ => ?_, fun _ => ?_⟩⟩⟩⟩⟩⟩⟩⟩
  · -- write
    refine ⟨_, _, pl c2, _, _, _, _, _, cells3 k2, o.s, cellsAt_one (cellH_at k2), (pwrites_c t2 hh2 o.H ok.hd o.s hl).mono ?_⟩
    rintro e g3 ⟨T, rfl⟩
    exact ⟨_, rfl, _, _, TwoTo.from x02 T, fun N b => (b.writeC _ _).more, rfl⟩
  · -- a head that fits
    refine ⟨_, _, pl c2, _, _, _, _, _, _, _, _, _, _, _, _, ol, (pfit_c t2 o ok2 hm).mono ?_⟩
    rintro e g3 ⟨x3, G, s, okG, rfl⟩
    refine ⟨_, _, _, _, _, _, rfl, hd_new G fun b3 g4 hb3 x4 c4 => ?_⟩
    have x24 := x3.trans x4
    have cb4 := (x24.old b lb).trans c2
    refine ⟨_, _, pl cb4, _, _, _, _, _, cellsAt_all (vs := hdV G) c4, (pwrites_c (t2.ext x24) (hh2.ext x24) G okG s hl).mono ?_⟩
    rintro e g5 ⟨T, rfl⟩
    exact ⟨_, rfl, _, _, TwoTo.from (x02.trans x24) T, fun N b => (b.writeC _ _).more, rfl⟩
  · -- the next one
    refine ⟨_, _, pl c2, o.s, cellsAt_one (cellH_at k2), (pnext_c t2 hh2 o.s hl).mono ?_⟩
    rintro e g3 ⟨σ', τ', T, hb, rfl⟩
    exact ⟨_, rfl, _, _, TwoTo.from x02 T, fun N b => (hb N b).more, rfl⟩
  · -- finds
    refine ⟨_, _, pl c2, (finds_c t2 hh2).mono ?_⟩
    rintro e g3 ⟨σ', τ', r, T, y, rfl⟩
    exact ⟨_, rfl, _, _, TwoTo.from x02 (TwoTo.of T y), fun N b => (b.rds r).more, rfl⟩
  · -- cut
    refine ⟨_, cellsAt_one (cellH_at c2), _, cellsAt_one (cellH_at k2), (cut_c t2.a o.n ok.n1).mono ?_⟩
    rintro e g3 ⟨y3, _, D3, rfl⟩
    obtain ⟨c3, k3⟩ := K y3.left
    refine ⟨rfl, _, cellsAt_one (cellH_at c3), _, cellsAt_one (cellH_at k3), (rCut_c (t2.b.other y3 fun x h1 h2 => t.dis x h2 h1) o.n ok.n1).mono ?_⟩
    rintro e g4 ⟨y4, _, D4, rfl⟩
    obtain ⟨T, y⟩ := t2.both y3 D3 y4 D4 (t.r.cut o.n)
    exact ⟨rfl, _, _, TwoTo.from x02 (TwoTo.of T y), fun N b => (b.cut _).more, rfl⟩
  · -- crash
    have f1 : ∀ bb i, o.fp = some ⟨bb, i, none⟩ → o.fates ≠ [] → ¬ B1 bb := fun bb i hp h0 hb => hB bb i hp h0 (.inl hb)
    have f2 : ∀ bb i, o.fp = some ⟨bb, i, none⟩ → o.fates ≠ [] → ¬ B2 bb := fun bb i hp h0 hb => hB bb i hp h0 (.inr hb)
    refine ⟨_, cellsAt_one (cellH_at c2), o.fp, o.fn, o.fc, cellsAt_one (cellH_at k2), (crash_c t2.a o.fates ok2.seg f1).mono ?_⟩
    rintro e g3 ⟨y3, D3, rfl⟩
    obtain ⟨c3, k3⟩ := K y3.left
    have sg3 : SegS g3 o.fp o.fn 2 (o.fates.map fateV) := ok2.seg.keep fun bb i hp h0 => y3.old bb (ok2.seg.block (by decide) hp h0) (f1 bb i hp fun e => h0 (by rw [e]; rfl))
    refine ⟨rfl, _, cellsAt_one (cellH_at c3), o.fp, o.fn, o.fc, cellsAt_one (cellH_at k3), (rCrash_c (t2.b.other y3 fun x h1 h2 => t.dis x h2 h1) o.fates sg3 f2).mono ?_⟩
    rintro e g4 ⟨y4, D4, rfl⟩
    obtain ⟨T, y⟩ := t2.both y3 D3 y4 D4 (t.r.crash o.fates)
    exact ⟨rfl, _, _, TwoTo.from x02 (TwoTo.of T y), fun N b => (b.crash _).more, rfl⟩
  · -- spoils
    refine ⟨_, _, pl c2, _, _, _, _, _, _, _, _, _, _, _, _, ol, (pspoils_c t2 hh2 o ok2 hl).mono ?_⟩
    rintro e g3 ⟨σ', τ', T, hb, rfl⟩
    exact ⟨_, rfl, _, _, TwoTo.from x02 T, hb, rfl⟩
  · -- flush
    refine ⟨fun h' => h'[b]? = some (.cells #[vP d, vP q] 34), c2, _, cellsAt_one (cellH_at c2), (flush_c t2.a).mono ?_⟩
    rintro e g3 ⟨y3, _, D3, rfl⟩
    obtain ⟨c3, k3⟩ := K y3.left
    refine ⟨_, rfl, c3, _, fun h' c => cellsAt_one (cellH_at c), (rFlush_c (t2.b.other y3 fun x h1 h2 => t.dis x h2 h1)).mono ?_⟩
    rintro e g4 ⟨y4, _, D4, rfl⟩
    obtain ⟨r, ec⟩ := t.r.flush
    obtain ⟨T, y⟩ := t2.both y3 D3 y4 D4 r
    exact ⟨_, rfl, (K y).1, _, _, TwoTo.from x02 (TwoTo.of T y), fun N b => b.flush.more, by rw [ec]; simp⟩
  · exact ⟨_, _, TwoTo.of t2 (x02.same _), fun N b => b.more, rfl⟩

end

/-! ## Two of them -/

def TwoIn (h : Hp) (B : Nat → Prop) (d q : Nat) (σ : DS) : Prop := ∃ B1 B2 τ, Two B1 B2 h d q σ τ ∧ (∀ b, B1 b → B b) ∧ (∀ b, B2 b → B b) ∧ ∀ b, B b → b < h.size

section
variable {h h' : Hp} {B C : Nat → Prop} {d q : Nat} {σ : DS}
theorem TwoIn.lt (p : TwoIn h B d q σ) : ∀ b, B b → b < h.size := let ⟨_, _, _, _, _, _, h⟩ := p; h
theorem TwoIn.other (p : TwoIn h B d q σ) (x : Same C h h') (hC : ∀ b, B b → ¬ C b) : TwoIn h' B d q σ :=
  let ⟨B1, B2, τ, t, k1, k2, k3⟩ := p
  ⟨B1, B2, τ, ⟨t.a.other x fun b hb => hC b (k1 b hb), t.b.other x fun b hb => hC b (k2 b hb), t.r, t.dis, t.n0⟩, k1, k2, fun b hb => Nat.lt_of_lt_of_le (k3 b hb) x.size⟩
theorem TwoIn.ext (p : TwoIn h B d q σ) (x : Ext h h') : TwoIn h' B d q σ := p.other (x.same NoB) fun _ _ h => h
end

theorem rowP : RowT Tryz.prog 25 34 2 16 := RowT.of (by kernel_rfl)

theorem Own.block {h : Hp} {base : Nat} {e : TypeId} {z : Nat} {p : Option Addr} {n c : Nat} {xs : List Value} (o : Own h base e z (.slice p n c) n xs) (hn : 0 < n) : ∃ g, p = some ⟨g, 0, none⟩ ∧ base ≤ g ∧ g < h.size ∧ (Value.slice p n c).ownBlock = some g := by
  rcases o.2 with ⟨_, h0⟩ | ⟨g, cap, cur, hv, hb, hg, _⟩
  · omega
  · cases hv
    exact ⟨g, rfl, hb, (Array.getElem?_eq_some_iff.1 (show h[g]? = _ from hg)).1, rfl⟩

def pairL (x : Nat × Nat) : List Value := [vP x.1, vP x.2]

/-- Two pairs of disks beside one another. -/
structure Game (h hq : Hp) (lb N : Nat) (ps : List (Nat × Nat)) : Prop where
  x : Ext h hq
  row : SegS hq (some ⟨lb, 0, none⟩) ps.length 2 (ps.map pairL)
  ltb : lb < hq.size
  pairs : ∃ (B : Nat → Nat → Prop) (σ : Nat → DS), (∀ i (hi : i < ps.length), TwoIn hq (B i) ps[i].1 ps[i].2 (σ i) ∧ Bd N (σ i)) ∧
    (∀ i j b, i < ps.length → j < ps.length → B i b → B j b → i = j) ∧ (∀ i b, i < ps.length → B i b → h.size ≤ b ∧ b ≠ lb)

section
variable {h hq hr : Hp} {lb N : Nat} {ps : List (Nat × Nat)}

theorem Game.ext (G : Game h hq lb N ps) (x : Ext hq hr) : Game h hr lb N ps :=
  let ⟨gx, row, l, B, σ, h1, h2, h3⟩ := G
  ⟨gx.trans x, row.ext x, Nat.lt_of_lt_of_le l x.size, B, σ, fun i hi => ⟨(h1 i hi).1.ext x, (h1 i hi).2⟩, h2, h3⟩

theorem Game.one (G : Game h hq lb N ps) {j : Nat} (hj : j < ps.length) : ∃ B σ, TwoIn hq B ps[j].1 ps[j].2 σ ∧ Bd N σ ∧ (∀ b, B b → h.size ≤ b ∧ b ≠ lb) ∧
    ∀ hr σ', Same B hq hr → TwoIn hr (GrowB B hq hr) ps[j].1 ps[j].2 σ' → Bd (N + 1) σ' → Game h hr lb (N + 1) ps := by
  obtain ⟨gx, row, l, B, σ, h1, h2, h3⟩ := G
  refine ⟨B j, σ j, (h1 j hj).1, (h1 j hj).2, fun b hb => h3 j b hj hb, fun hr σ' y p hl => ⟨gx.over y fun b hb => (h3 j b hj hb).1, row.keep fun b o hp _ => ?_, Nat.lt_of_lt_of_le l y.size, fun i => if i = j then GrowB (B j) hq hr else B i, fun i => if i = j then σ' else σ i, ?_, ?_, ?_⟩⟩
  · cases hp
    exact y.old lb l fun hb => (h3 j lb hj hb).2 rfl
  · intro i hi
    by_cases e : i = j
    · subst e
      simp only [if_true]
      exact ⟨p, hl⟩
    · simp only [if_neg e]
      exact ⟨(h1 i hi).1.other y fun b hb hb' => e (h2 i j b hi hj hb hb'), (h1 i hi).2.more⟩
  · intro i k b hi hk hb1 hb2
    by_cases e : i = j
    · by_cases e' : k = j
      · rw [e, e']
      · simp only [if_pos e, if_neg e'] at hb1 hb2
        have := (h1 k hk).1.lt b hb2
        rcases hb1 with hb1 | hb1
        · exact (e' (h2 k j b hk hj hb2 hb1)).elim
        · omega
    · by_cases e' : k = j
      · simp only [if_neg e, if_pos e'] at hb1 hb2
        have := (h1 i hi).1.lt b hb1
        rcases hb2 with hb2 | hb2
        · exact (e (h2 i j b hi hj hb1 hb2)).elim
        · omega
      · simp only [if_neg e, if_neg e'] at hb1 hb2
        exact h2 i k b hi hk hb1 hb2
  · intro i b hi hb
    by_cases e : i = j
    · simp only [if_pos e] at hb
      rcases hb with hb | hb
      · exact h3 j b hj hb
      · exact ⟨by have := gx.size; omega, by omega⟩
    · simp only [if_neg e] at hb
      exact h3 i b hi hb

theorem Game.at (G : Game h hq lb N ps) {j : Nat} (hj : j < ps.length) : ∃ b o, some (⟨lb, 0, none⟩ : Addr) = some ⟨b, o, none⟩ ∧ 0 ≤ (j : Int) ∧ (j : Int) < ps.length ∧ cellsAt hq b (o + Int.toNat (j : Int) * 2) (pairL ps[j]) := by
  obtain ⟨b, o, h1, h2, h3, h4⟩ := G.row.at (i := j) (by simpa using hj)
  exact ⟨b, o, h1, h2, h3, by simpa using h4⟩

/-- Where a step of a pair leads, its blocks and new ones. -/
theorem TwoIn.of {B B1 B2 : Nat → Prop} {d q : Nat} {σ' τ' : DS} (T : TwoTo B1 B2 hq hr d q σ' τ') (k1 : ∀ b, B1 b → B b) (k2 : ∀ b, B2 b → B b) (k3 : ∀ b, B b → b < hq.size) : Same B hq hr ∧ TwoIn hr (GrowB B hq hr) d q σ' := by
  obtain ⟨y, B1', B2', t, a1, a2⟩ := T
  have hs := y.size
  refine ⟨y.more fun b hb _ => hb.elim (k1 b) (k2 b), B1', B2', τ', t, fun b hb => ?_, fun b hb => ?_, GrowB.lt k3 hs⟩
  · rcases a1 b hb with h | h
    · exact .inl (k1 b h)
    · exact .inr ⟨h, t.a.lt b hb⟩
  · rcases a2 b hb with h | h
    · exact .inl (k2 b h)
    · exact .inr ⟨h, t.b.lt b hb⟩

end

/-- The pairs that are there while they are made. -/
structure Rowd (h hq : Hp) (k : Nat) (ps : List (Nat × Nat)) (p : Option Addr) (c : Nat) : Prop where
  x : Ext h hq
  own : Own hq h.size 34 2 (.slice p k c) k (ps.map pairL).flatten
  len : ps.length = k
  pairs : ∃ (B : Nat → Nat → Prop) (σ : Nat → DS), (∀ i (hi : i < ps.length), TwoIn hq (B i) ps[i].1 ps[i].2 (σ i) ∧ Bd 0 (σ i)) ∧
    (∀ i j b, i < ps.length → j < ps.length → B i b → B j b → i = j) ∧ (∀ i b, i < ps.length → B i b → h.size ≤ b ∧ (Value.slice p k c).ownBlock ≠ some b)

theorem Rowd.game {h hq : Hp} {k : Nat} {ps : List (Nat × Nat)} {p : Option Addr} {c : Nat} (R : Rowd h hq k ps p c) (hk : 0 < k) : ∃ lb, p = some ⟨lb, 0, none⟩ ∧ Game h hq lb 0 ps := by
  obtain ⟨x, own, len, B, σ, h1, h2, h3⟩ := R
  obtain ⟨lb, hp, hl0, hl1, hlo⟩ := own.block hk
  subst hp
  refine ⟨lb, rfl, x, ?_, hl1, B, σ, h1, h2, fun i b hi hb => ?_⟩
  · rw [len]
    exact own.segS (by intro r hr; obtain ⟨x, _, rfl⟩ := List.mem_map.1 hr; rfl) (by simpa using len)
  · obtain ⟨k1, k2⟩ := h3 i b hi hb
    exact ⟨k1, fun e => k2 (by rw [hlo, e])⟩

theorem Rowd.next {h hq : Hp} {k : Nat} {ps : List (Nat × Nat)} {p : Option Addr} {c : Nat} (R : Rowd h hq k ps p c) {h3 h5 : Hp} {d q : Nat} {σ : DS} {Bn : Nat → Prop} (x3 : Ext hq h3) (T : TwoIn h3 Bn d q σ) (bd : Bd 0 σ) (hBn : ∀ b, Bn b → hq.size ≤ b)
    {p5 : Option Addr} {c5 : Nat} (o5 : Own h5 h.size 34 2 (.slice p5 (k + 1) c5) (k + 1) ((ps.map pairL).flatten ++ pairL (d, q))) (g5 : Grown h3 h5 (Value.slice p k c).ownBlock) (hb5 : (Value.slice p5 (k + 1) c5).ownBlock = (Value.slice p k c).ownBlock ∨ ∃ b, (Value.slice p5 (k + 1) c5).ownBlock = some b ∧ h3.size ≤ b) :
    Rowd h h5 (k + 1) (ps ++ [(d, q)]) p5 c5 := by
  obtain ⟨x, own, len, B, σs, h1, h2, h3'⟩ := R
  have hlt := fun b (hb : (Value.slice p k c).ownBlock = some b) => own.lt hb
  have s3 := x3.size
  have sx := x.size
  have y5 : Same (fun b => (Value.slice p k c).ownBlock = some b) h3 h5 := g5.same _ fun b hb => hb
  have nk : ∀ {b}, Bn b → ¬ (Value.slice p k c).ownBlock = some b := fun hb e => by have := hBn _ hb; have := (hlt _ e).2; omega
  refine ⟨(x.trans x3).grown g5 fun b hb => (hlt b hb).1, by rw [List.map_append, List.flatten_append]; simpa using o5, by simp [len], fun i => if i = k then Bn else B i, fun i => if i = k then σ else σs i, ?_, ?_, ?_⟩
  · intro i hi
    by_cases e : i = k
    · subst e
      simp only [if_true]
      have : (ps ++ [(d, q)])[i] = (d, q) := by rw [List.getElem_append_right (by omega)]; simp [len]
      rw [this]
      exact ⟨T.other y5 fun b hb => nk hb, bd⟩
    · have hi' : i < ps.length := by simp at hi; omega
      simp only [if_neg e]
      rw [List.getElem_append_left hi']
      exact ⟨((h1 i hi').1.ext x3).other y5 fun b hb => (h3' i b hi' hb).2, (h1 i hi').2⟩
  · intro i j b hi hj hb1 hb2
    simp at hi hj
    by_cases e : i = k
    · by_cases e' : j = k
      · omega
      · simp only [if_pos e, if_neg e'] at hb1 hb2
        have := (h1 j (by omega)).1.lt b hb2
        have := hBn b hb1
        omega
    · by_cases e' : j = k
      · simp only [if_neg e, if_pos e'] at hb1 hb2
        have := (h1 i (by omega)).1.lt b hb1
        have := hBn b hb2
        omega
      · simp only [if_neg e, if_neg e'] at hb1 hb2
        exact h2 i j b (by omega) (by omega) hb1 hb2
  · intro i b hi hb
    simp at hi
    by_cases e : i = k
    · simp only [if_pos e] at hb
      have hbq := hBn b hb
      refine ⟨by omega, fun e2 => ?_⟩
      rcases hb5 with e3 | ⟨b', e3, hl⟩
      · rw [e3] at e2; exact nk hb e2
      · rw [e3] at e2; cases e2; have := T.lt b hb; omega
    · simp only [if_neg e] at hb
      obtain ⟨k1, k2⟩ := h3' i b (by omega) hb
      refine ⟨k1, fun e2 => ?_⟩
      rcases hb5 with e3 | ⟨b', e3, hl⟩
      · rw [e3] at e2; exact k2 e2
      · rw [e3] at e2; cases e2; have := (h1 i (by omega)).1.lt b hb; omega

theorem pair_new {h : Hp} (x : Nat × Nat) {K : Nat → Hp → Prop} (hK : ∀ b h2, b = h.size → Ext h h2 → h2[b]? = some (.cells #[vP x.1, vP x.2] 34) → K b h2) :
    ∀ b hp, b = Array.size h → hp = Array.push h (.cells (zeros Tryz.prog 34) 34) → (∃ i z, Tryz.prog.info? 34 = some i ∧ i.zero = some z) ∧ List.length [vP x.1, vP x.2] = 2 ∧ (∀ c ∈ [vP x.1, vP x.2], c.oneCell' = true) ∧ wrAt hp b 0 2 ∧ ∀ h2, h2 = setsH hp b 0 [vP x.1, vP x.2] → K b h2 := by
  intro b hp hb e
  have x1 : Ext h hp := by rw [e]; exact Ext.push _ _
  have c : hp[b]? = some (.cells [Value.pointer none, Value.pointer none].toArray 34) := by rw [e, hb, zerosPair]; exact push_last
  obtain ⟨q1, q2⟩ := all_set c [vP x.1, vP x.2] rfl
  refine ⟨infoPair, rfl, by simp [Value.oneCell'], q1, fun h2 e2 => hK b h2 hb ?_ (by rw [e2]; exact q2)⟩
  rw [e2]
  exact x1.over (setsH_same (B := fun y => y = b) rfl) fun y hy => by omega

set_option maxHeartbeats 2000000 in
/-- turnoutlaw20.CkptPlays -/
theorem plays_law (sectors : Int) (ops : List COp) (hs0 : -9223372036854775808 ≤ sectors) (hs1 : sectors ≤ 9223372036854775807) (hl : ops.length ≤ 2000000000000) (h : Hp) (hh : Halves h) (hok : ∀ o ∈ ops, o.Ok h)
    {p : Option Addr} {k c : Nat} (hs : SegS h p k 10 (ops.map copV)) :
    CallsH Tryz.prog 3 #[vZ sectors, .slice p k c] h (RetX (.bool true) h) := by
  have hk : ops.length = k := by have := hs.1; simpa using this
  have hpos := hh.pos
  refine V3 _ _ _ _ h _ ((awake_c h hh).mono ?_)
  rintro e h0 ⟨x0, rfl⟩
  refine ⟨_, rfl, (pick_c sectors 14 (by decide) hs0 hs1 h0).mono ?_⟩
  rintro e h0' ⟨rfl, rfl⟩
  have hp5 := pickN_lt sectors (show 0 < 14 by decide)
  obtain ⟨n, hn⟩ : ∃ n, n = 1 + pickN sectors 14 := ⟨_, rfl⟩
  refine ⟨_, rfl, (n : Int), by rw [wrapI64] <;> omega, fun l hq => ∃ (j : Nat) (ps : List (Nat × Nat)) (p : Option Addr) (c : Nat), l = [.slice p j c, vI j] ∧ j ≤ 2 ∧ Rowd h hq j ps p c, fun l _ => (2 - numAt l 1).toNat,
    ⟨0, [], none, 0, rfl, by decide, ⟨x0, Own.nil _ _ _ _, rfl, fun _ _ => False, fun _ => DS.new n, fun i hi => by simp at hi, fun i j b hi => by simp at hi, fun i b hi => by simp at hi⟩⟩, ?_⟩
  rintro lp ln lc j hq ⟨j', ps, p', c', hl', hj, R⟩
  have hl'' := hl'
  simp only [List.cons.injEq, Value.slice.injEq, Value.int.injEq, and_true, true_and] at hl''
  obtain ⟨⟨rfl, rfl, rfl⟩, rfl⟩ := hl''
  refine ⟨fun hlt => ?_, fun hlt => ?_⟩
  · have hlt : ln < 2 := by have := of_decide_eq_true hlt; omega
    refine (new_c (n : Int)).mono ?_
    rintro e h1 (⟨hbad, rfl, rfl⟩ | ⟨_, _, da, Fa, rfl⟩)
    · omega
    refine ⟨_, _, rfl, (rNew_c (n : Int)).mono ?_⟩
    rintro e h2 (⟨hbad, rfl, rfl⟩ | ⟨_, _, db, Fb, rfl⟩)
    · omega
    have sx := R.x.size
    have s1 := Fa.1.size
    have s2 := Fb.1.size
    have P2 : TwoIn h2 (fun b => hq.size ≤ b ∧ b < h2.size) da db (DS.new n) :=
      ⟨_, _, DS.new n, ⟨Fa.2.ext Fb.1, Fb.2, Rds.refl _, fun x h1 h2 => by omega, by rintro ⟨h1, _⟩; omega, by rintro ⟨h1, _⟩; omega⟩, fun b hb => ⟨hb.1, by omega⟩, fun b hb => ⟨by omega, hb.2⟩, fun b hb => hb.2⟩
    have x2 := Fa.1.trans Fb.1
    refine ⟨_, _, rfl, fun l hr => l = [] ∧ hr = h2, ⟨false, ⟨fun hf => (by simp at hf), fun _ => ⟨false, eqv_ptr uPD _, fun hf => (by cases hf), fun _ => ⟨rfl, by simp⟩⟩⟩, fun hB => (by cases hB), fun _ => ⟨rfl, rfl⟩⟩, ?_⟩
    rintro h2' ⟨_, rfl⟩
    have bd : Bd 0 (DS.new n) := ⟨Nat.zero_le _, fun _ => Nat.zero_le _, by show (List.replicate n zero512).length ≤ 14; simp; omega⟩
    refine semH_pushS rowP (by decide) (R.own.ext x2) (r := pairL (da, db)) rfl rfl (by decide) (by simp [pairL, Value.oneCell']) (by omega) (by simp only [maxLen]; omega) (by omega) fun p3 c3 h3 o3 g3 _ b3 => ?_
    exact ⟨_, incI (by omega), ⟨ln + 1, ps ++ [(da, db)], p3, _, rfl, by omega, R.next x2 P2 bd (fun b hb => hb.1) o3 g3 b3⟩, by simp only [numAt]; omega⟩
  have hj2 : ln = 2 := by have := of_decide_eq_false hlt; omega
  subst hj2
  obtain ⟨lb, rfl, G0⟩ := R.game (by decide)
  have hlen := R.len
  clear R hl'
  have e2 : ∀ {j : Nat}, j < 2 → j < ps.length := fun h => by omega
  refine ⟨fun l hr => ∃ i : Nat, i ≤ k ∧ l = [vI i] ∧ Game h hr lb i ps, fun l _ => (k - numAt l 0).toNat, ⟨0, Nat.zero_le _, rfl, G0⟩, ?_⟩
  rintro x hr ⟨i, hi, hl', G⟩
  cases hl'
  have GA : ∀ {hr : Hp} {N : Nat}, Game h hr lb N ps → ∀ {j : Nat} (hj : j < 2), ∃ b o, some (⟨lb, 0, none⟩ : Addr) = some ⟨b, o, none⟩ ∧ 0 ≤ (j : Int) ∧ (j : Int) < ((2 : Nat) : Int) ∧ cellsAt hr b (o + Int.toNat (j : Int) * 2) (pairL (ps[j]'(e2 hj))) := fun G j hj => by
    obtain ⟨b, o, h1, h2, h3, h4⟩ := G.at (e2 hj)
    exact ⟨b, o, h1, h2, by omega, h4⟩
  have HH : ∀ {hr : Hp} {N : Nat}, Game h hr lb N ps → Halves hr := fun G => hh.ext G.x
  refine ⟨fun hlt => ?_, fun hlt => ?_⟩
  · have hlt : i < k := by simp at hlt; omega
    have hio : i < ops.length := by omega
    have ok := hok ops[i] (List.getElem_mem hio)
    obtain ⟨b, o, hp, q0, q1, hc⟩ := (hs.ext G.x).get (i := i) (by simpa using hio)
    have eo : (ops.map copV)[i]'(by simpa using hio) = copV ops[i] := by simp
    refine ⟨b, o, hp, q0, q1, ops[i].on, hc 1 _ (by rw [eo]; rfl), (pick_c ops[i].on 2 (by decide) ok.on0 ok.on1 hr).mono ?_⟩
    rintro e hr' ⟨rfl, rfl⟩
    obtain ⟨j, hj⟩ : ∃ j, j = pickN ops[i].on 2 := ⟨_, rfl⟩
    have hjl : j < 2 := by rw [hj]; exact pickN_lt _ (by decide)
    rw [← hj]
    obtain ⟨b1, o1, e1, a0, a1, a2⟩ := GA G hjl
    refine ⟨_, rfl, b1, o1, e1, a0, a1, _, _, a2, pair_new (ps[j]'(e2 hjl)) fun bb h8 hbb x8 c8 => ⟨_, _, cellsAt_all (vs := [vP _, vP _]) c8, ?_⟩⟩
    have G8 := G.ext x8
    obtain ⟨b2, o2, hp2, q2, q3, hc2⟩ := (hs.ext G8.x).at (i := i) (by simpa using hio)
    rw [eo] at hc2
    obtain ⟨B, σ, ⟨B1, B2, τ, T, k1, k2, k3⟩, hbd, hBl, hnext⟩ := G8.one (e2 hjl)
    have hpl := hbd.a
    refine ⟨b2, o2, hp2, q2, q3, _, _, _, _, _, _, _, _, _, _, _, _, hc2, (play_c T (HH G8) ops[i] ⟨ok.n0, ok.n1, ok.on0, ok.on1, ok.hd, ok.seg.ext G8.x⟩ hbd.c (by omega) fun b q hp h0 hb => ?_).mono ?_⟩
    · have h1 := ok.seg.block (by decide) hp fun e => h0 (List.map_eq_nil_iff.1 e)
      have h2 := (hBl b (hb.elim (k1 b) (k2 b))).1
      omega
    rintro e h9 ⟨σ', τ', TT, hbd', rfl⟩
    obtain ⟨y9, I9⟩ := TwoIn.of TT k1 k2 k3
    have G9 := hnext h9 σ' y9 I9 (hbd' i hbd)
    obtain ⟨b3, o3, e3, f0, f1, f2⟩ := GA G9 (show 0 < 2 by decide)
    obtain ⟨B3, σ3, ⟨_, _, τ3, T3, _, _, _⟩, bd3, _⟩ := G9.one (e2 (show 0 < 2 by decide))
    have hpl3 := bd3.a
    refine ⟨true, rfl, fun hf => (by cases hf), fun _ => ⟨b3, o3, e3, by decide, by decide, _, _, f2, (lies_c T3 (by omega)).mono ?_⟩⟩
    rintro e h10 ⟨x10, rfl⟩
    have G10 := G9.ext x10
    obtain ⟨b4, o4, e4, u0, u1, u2⟩ := GA G10 (show 1 < 2 by decide)
    obtain ⟨B4, σ4, ⟨_, _, τ4, T4, _, _, _⟩, bd4, _⟩ := G10.one (e2 (show 1 < 2 by decide))
    have hpl4 := bd4.a
    refine ⟨true, rfl, b4, o4, e4, by decide, by decide, _, _, u2, (lies_c T4 (by omega)).mono ?_⟩
    rintro e h11 ⟨x11, rfl⟩
    exact ⟨true, rfl, false, ⟨fun hf => (by cases hf), fun _ => ⟨rfl, rfl⟩⟩, fun hf => (by cases hf), fun _ => ⟨_, incI (by omega), ⟨i + 1, hlt, rfl, G10.ext x11⟩, by simp only [numAt]; omega⟩⟩
  · have hj0 : 0 < 2 := by decide
    obtain ⟨b3, o3, e3, f0, f1, f2⟩ := GA G hj0
    obtain ⟨B, σ, ⟨B1, B2, τ, T, k1, k2, k3⟩, hbd, hBl, hnext⟩ := G.one (e2 hj0)
    cases e3
    have one : ∀ {hr : Hp} {N : Nat}, Game h hr lb N ps → cellsAt hr lb ((0 + Int.toNat ((0 : Nat) : Int) * 2) + 0) [vP (ps[0]'(e2 hj0)).1] ∧ cellsAt hr lb ((0 + Int.toNat ((0 : Nat) : Int) * 2) + 1) [vP (ps[0]'(e2 hj0)).2] := fun G => by
      obtain ⟨b4, o4, e4, u0, u1, u2⟩ := G.row.get (i := 0) (by simpa using e2 hj0)
      cases e4
      have em : (ps.map pairL)[0]'(by simpa using e2 hj0) = pairL (ps[0]'(e2 hj0)) := by simp
      exact ⟨u2 0 _ (by rw [em]; rfl), u2 1 _ (by rw [em]; rfl)⟩
    refine ⟨lb, 0, rfl, by decide, by decide, _, (one G).1, (crash_c T.a [] (SegS.nil hr 2) (fun _ _ _ h => (h rfl).elim)).mono ?_⟩
    rintro e h9 ⟨y9, D9, rfl⟩
    have s9 := y9.size
    have nlb : ¬ Or2 B1 B2 lb := fun hb => (hBl lb (hb.elim (k1 lb) (k2 lb))).2 rfl
    have c9 := cellsAt_congr (y9.left (B2 := B2) |>.old lb G.ltb nlb) (one G).2
    refine ⟨rfl, lb, 0, rfl, by decide, by decide, _, c9, (rCrash_c (T.b.other y9 fun x h1 h2 => T.dis x h2 h1) [] (SegS.nil h9 2) (fun _ _ _ h => (h rfl).elim)).mono ?_⟩
    rintro e h10 ⟨y10, D10, rfl⟩
    obtain ⟨T10, y⟩ := T.both y9 D9 y10 D10 (T.r.crash [])
    have c10 := cellsAt_congr (y.old lb G.ltb nlb) f2
    refine ⟨rfl, lb, 0, rfl, by decide, by decide, _, _, c10, (finds_c T10 (T.halves (HH G) y)).mono ?_⟩
    rintro e h11 ⟨_, _, _, _, y11, rfl⟩
    have low : ∀ b, Or2 B1 B2 b → h.size ≤ b := fun b hb => (hBl b (hb.elim (k1 b) (k2 b))).1
    exact ⟨_, rfl, rfl, (G.x.over y low).over y11 low⟩

end Go.Vc

/- Scripts that come in. -/
namespace Go.Vc
open Go Go.Proofs Go.ChangeShapes Go.WideShapes Go.ChangeAt Go.RowKit

theorem undFates : Tryz.prog.underlying 40 = some (.slice 80) := by kernel_rfl
theorem cFate : Tryz.prog.cellsOf 80 = 2 := by kernel_rfl
theorem undOps : Tryz.prog.underlying 22 = some (.slice 42) := by kernel_rfl
theorem cOp : Tryz.prog.cellsOf 42 = 10 := by kernel_rfl
theorem bOp : Tryz.prog.bytesOf 42 = 104 := by kernel_rfl
theorem c1StrH : Tryz.prog.cellsOf 9 = 1 := by kernel_rfl
theorem c1FatesH : Tryz.prog.cellsOf 40 = 1 := by kernel_rfl
theorem fieldsOp : fieldsOf Tryz.prog 42 = [(3, 0), (3, 1), (3, 2), (39, 3), (9, 8), (40, 9)] := by kernel_rfl

theorem rows_of {α : Type} {f : α → List Value} {Q : α → Prop} : ∀ {rows : List (List Value)}, (∀ r ∈ rows, ∃ a, r = f a ∧ Q a) → ∃ l : List α, rows = l.map f ∧ ∀ a ∈ l, Q a := by
  intro rows
  induction rows with
  | nil => exact fun _ => ⟨[], rfl, by simp⟩
  | cons r rs ih =>
    intro h
    obtain ⟨a, rfl, ha⟩ := h r (by simp)
    obtain ⟨l, rfl, hl⟩ := ih fun r hr => h r (by simp [hr])
    exact ⟨a :: l, rfl, by simpa using ⟨ha, hl⟩⟩

section
variable {H : Type} {enc : TypeId × Value → H} {W : World} {sp : Nat → Bool} {held : Bool} {base : Nat}

/-- The parts of a struct, as data, wherever they lie. -/
theorem trod_partsO {P : Program} {e : TypeId} {L : List (TypeId × Nat)} {n : Nat} {cs : List Value} {y : DataW H × List MemPlace} (hT : fieldsOf P e = L) (hL : L ≠ [])
    (h : DataW.trod enc P W base sp held n e cs = some y) :
    ∃ m parts, y.1 = .agg parts ∧ ∀ (i : Nat) (t : TypeId) (o : Nat), L[i]? = some (t, o) → ∃ yi, DataW.trod enc P W base sp held m t ((cs.drop o).take (P.cellsOf t)) = some yi ∧ parts[i]? = some yi.1 := by
  have hu : ∃ fs : Array Field, P.underlying e = some (.struct fs) ∧ (fs.toList.map fun f => (f.type, f.offset)) = L := by
    unfold fieldsOf at hT
    split at hT
    · rename_i fs hu; exact ⟨fs, hu, hT⟩
    · exact (hL hT.symm).elim
  obtain ⟨fs, hu, hfs⟩ := hu
  obtain ⟨xs, m, _, hy, _, hxl, hf⟩ := DataW.trod_struct hu h
  refine ⟨m, xs.map (·.1), by rw [hy], fun i t o hi => ?_⟩
  have hil := (List.getElem?_eq_some_iff.1 hi).1
  have hfl : fs.size = L.length := by have := congrArg List.length hfs; simpa using this
  have hfi : fs[i]? = some (fs[i]'(by omega)) := Array.getElem?_eq_getElem (by omega)
  have h1 := hf i _ hfi
  have h2 : ((fs[i]'(by omega)).type, (fs[i]'(by omega)).offset) = (t, o) := by
    have := congrArg (fun l : List (TypeId × Nat) => l[i]?) hfs
    simp only [List.getElem?_map, Array.getElem?_toList, hfi, Option.map_some] at this
    rw [hi] at this
    exact Option.some.inj this
  obtain ⟨h3, h4⟩ := Prod.mk.inj h2
  rw [h3, h4, List.getElem?_eq_getElem (by omega)] at h1
  exact ⟨_, h1, by rw [List.getElem?_map, List.getElem?_eq_getElem (by omega)]; rfl⟩

theorem fate_in {n : Nat} {cs : List Value} {y : DataW H × List MemPlace} (hl : cs.length = 2) (h : DataW.trod enc Tryz.prog W base sp held n 80 cs = some y) : ∃ f : Int × Int, cs = fateV f ∧ True := by
  obtain ⟨m, hm⟩ := trod_fields (L := [3, 3]) (by kernel_rfl) (by simp) (by intro t ht; simp at ht; subst ht; kernel_rfl) h hl
  obtain ⟨v0, y0, h0, t0⟩ := hm 0 _ rfl
  obtain ⟨v1, y1, h1, t1⟩ := hm 1 _ rfl
  obtain ⟨n0, e0, _, w0⟩ := DataW.trod_int undInt t0
  obtain ⟨n1, e1, _, w1⟩ := DataW.trod_int undInt t1
  simp at e0 e1
  subst e0 e1
  refine ⟨(n0, n1), ?_, trivial⟩
  match cs, hl with
  | [a, b], _ =>
    simp at h0 h1
    subst h0 h1
    rfl

theorem op_in {n : Nat} {cs : List Value} {y : DataW H × List MemPlace} (hl : cs.length = 10) (h : DataW.trod enc Tryz.prog W base sp held n 42 cs = some y) : ∃ o : COp, cs = copV o ∧ o.Ok W.heap := by
  match cs, hl with
  | [v0, v1, v2, v3, v4, v5, v6, v7, v8, v9], _ =>
  obtain ⟨m, parts, hy, hm⟩ := trod_partsO fieldsOp (by simp) h
  obtain ⟨y0, t0, _⟩ := hm 0 _ _ rfl
  obtain ⟨y1, t1, _⟩ := hm 1 _ _ rfl
  obtain ⟨y2, t2, _⟩ := hm 2 _ _ rfl
  obtain ⟨y3, t3, _⟩ := hm 3 _ _ rfl
  obtain ⟨y4, t4, _⟩ := hm 4 _ _ rfl
  obtain ⟨y5, t5, _⟩ := hm 5 _ _ rfl
  rw [c1IntH] at t0 t1 t2
  rw [cHead] at t3
  rw [c1StrH] at t4
  rw [c1FatesH] at t5
  obtain ⟨n0, e0, _, w0⟩ := DataW.trod_int undInt t0
  obtain ⟨n1, e1, _, w1⟩ := DataW.trod_int undInt t1
  obtain ⟨n2, e2, _, w2⟩ := DataW.trod_int undInt t2
  obtain ⟨f, e3, ok⟩ := hd_in rfl t3
  obtain ⟨s4, e4, _, _⟩ := DataW.trod_string undStr t4
  obtain ⟨p, k, c, rows, e5, hs, _, hq, hlen⟩ := segS_in undFates cFate (by decide) t5 (Q := fun r => ∃ f : Int × Int, r = fateV f ∧ True) fun n cs y hl h => fate_in hl h
  obtain ⟨fs, rfl, _⟩ := rows_of hq
  simp at e0 e1 e2 e4 e5
  have e3 : [v3, v4, v5, v6, v7] = hdV f := e3
  simp [hdV] at e3
  obtain ⟨rfl, rfl, rfl, rfl, rfl⟩ := e3
  subst e0 e1 e2 e4 e5
  exact ⟨⟨n0, n1, n2, f, s4, p, k, c, fs⟩, rfl, ⟨(i64_wf w2).1, (i64_wf w2).2, (i64_wf w1).1, (i64_wf w1).2, ok, hs⟩⟩

theorem ops_arg {v : Value} {d : DataW H} {ps : List MemPlace} {r : Reach} {b0 : Nat} (hval : Value.okWide Tryz.prog W r b0 22 v) (hd : DataW.Trod enc Tryz.prog W 0 sp true 22 v d ps) (hw : WOk Tryz.prog 22 d) :
    ∃ (p : Option Addr) (n c : Nat) (l : List COp), v = .slice p n c ∧ SegS W.heap p n 10 (l.map copV) ∧ (∀ x ∈ l, x.Ok W.heap) ∧ l.length ≤ 2000000000000 := by
  obtain ⟨a, len, cap, rfl⟩ := okWide_slice undOps hval
  obtain ⟨fuel, hf⟩ := hd
  obtain ⟨p, n, c, rows, hcs, hs, hnc, hl⟩ := segS_in2 undOps cOp (by decide) hf (Q := fun r y => ∃ o : COp, r = copV o ∧ o.Ok W.heap) fun n cs y hl h => op_in hl h
  simp [Value.cells] at hcs
  obtain ⟨rfl, rfl, rfl⟩ := hcs
  rcases hl with h0 | ⟨elems, rest, hx, hel, hr⟩
  · have hn : rows = [] := List.eq_nil_of_length_eq_zero (by rw [hs.1]; exact h0)
    subst hn
    exact ⟨_, _, _, [], rfl, hs, by simp, by simp⟩
  · simp only at hx
    subst hx
    obtain ⟨l, rfl, hok⟩ := rows_of (f := copV) (Q := fun o => o.Ok W.heap) fun r hr' => by
      obtain ⟨y, hy, o, ho, hk⟩ := hr r hr'
      exact ⟨o, ho, hk⟩
    refine ⟨_, _, _, l, rfl, hs, hok, ?_⟩
    have hk : l.length = len := by have := hs.1; simpa using this
    have := hw.len undOps
    rw [bOp] at this
    have h2 : reachBytes = 140737488351232 := rfl
    omega

end
end Go.Vc

