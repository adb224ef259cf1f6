/- TopLongest: a list in memory. -/
import Derived.Test.YtamhpfdcnfgngaaGreatTmO
set_option maxRecDepth 10000
namespace Go.Vc
open Go Go.Proofs Go.MapKept

structure Rw where
  b : Nat
  c : Nat
  mp : Nat
  mc : Nat
  ab : Nat
  ac : Nat
  y : BitVec 64
structure Gp where
  bg : Nat
  bs : Nat
  cs : Nat
  br : Nat
  n : Nat
  rows : List (B128 × Rw)
  m : Nat
  gr : Int

abbrev entL (k : Bool) (n : Nat) (r : Rw) : List Value := [sl r.mp 1 r.mc, vI (cond k (n + 1) 0), .string sOut, sl r.ab 1 r.ac]
def Gp.ents (g : Gp) : List (Value × Value) := g.rows.map fun p => (idV p.1, sl p.2.b 1 p.2.c)

structure RowAt (h : Hp) (k : Bool) (w n : Nat) (v : B128) (r : Rw) : Prop where
  own : Own h 0 53 4 (sl r.b 1 r.c) 1 (entL k n r)
  hm : cellsAt h r.mp 0 (mcells k w n v)
  ha : cellsAt h r.ab 0 [.int .u64 0, vW r.y]
structure GpAt (h : Hp) (k : Bool) (w : Nat) (g : Gp) : Prop where
  blk : h[g.bg]? = some (.cells #[sl g.bs 1 g.cs, .map (some g.br), vI g.m, vZ g.gr] 246)
  shp : cellsAt h g.bs 0 (mcells k w g.n 0)
  nw : g.n ≤ w
  map : MapAt h g.br g.ents
  row : ∀ p ∈ g.rows, p.1 &&& msk w g.n = p.1 ∧ RowAt h k w g.n p.1 p.2
  nd : (g.rows.map (·.1)).Nodup

def isSI : Value → Bool
  | .int _ _ => true
  | .string _ => true
  | _ => false
def SIat (h : Hp) (q : Nat) : Prop := ∃ v, cellH h ⟨q, 0, none⟩ = some v ∧ isSI v = true
theorem SIat.of {h : Hp} {b : Nat} {v : Value} {r : List Value} (hc : cellsAt h b 0 (v :: r)) (hv : isSI v = true) : SIat h b := ⟨v, hc.1, hv⟩
def KeepsSI (h h' : Hp) : Prop := ∀ q, SIat h q → h'[q]? = h[q]?
theorem KeepsSI.cells {h h' : Hp} (K : KeepsSI h h') {b : Nat} {v : Value} {r : List Value} (hc : cellsAt h b 0 (v :: r)) (hv : isSI v = true) : cellsAt h' b 0 (v :: r) := cellsAt_congr (K b (.of hc hv)) hc
theorem KeepsSI.sch {h h' : Hp} (K : KeepsSI h h') {w : Nat} {s : SB} (S : Sch h w s) : Sch h' w s :=
  ⟨K.cells S.m rfl, K.cells S.a rfl, K.cells S.p rfl, K.cells S.t rfl, fun k => K.cells (S.k k) rfl, fun k => K.cells (S.n k) rfl, S.w1, S.w2⟩
theorem KeepsSI.lok {h h' : Hp} (K : KeepsSI h h') {w : Nat} {k : Bool} {L : LB} (O : LOk h w k L) : LOk h' w k L := ⟨K.sch O.S, K.cells O.hk rfl, K.cells O.hw rfl⟩

def Tag (h : Hp) (q : Nat) (t : TypeId) : Prop := ∃ cs, h[q]? = some (.cells cs t)
def IsM (h : Hp) (q : Nat) : Prop := ∃ es c, h[q]? = some (.map es c)
theorem Tag.ne {h : Hp} {q q' : Nat} {t t' : TypeId} (a : Tag h q t) (b : Tag h q' t') (hne : t ≠ t') : q ≠ q' := by
  rintro rfl
  obtain ⟨cs, h1⟩ := a
  obtain ⟨cs', h2⟩ := b
  rw [h1] at h2
  cases h2
  exact hne rfl
theorem Tag.neM {h : Hp} {q q' : Nat} {t : TypeId} (a : Tag h q t) (b : IsM h q') : q ≠ q' := by
  rintro rfl
  obtain ⟨cs, h1⟩ := a
  obtain ⟨es, c, h2⟩ := b
  rw [h1] at h2
  cases h2
theorem IsM.noSI {h : Hp} {q : Nat} (b : IsM h q) : ¬ SIat h q := by
  rintro ⟨v, h1, h2⟩
  obtain ⟨es, c, h3⟩ := b
  have h4 : (wld h).heap[q]? = some (.map es c) := h3
  simp only [cellH, World.cell?, h4] at h1
  cases h1
theorem noSI_of {h : Hp} {q : Nat} {v : Value} (hc : cellH h ⟨q, 0, none⟩ = some v) (hv : isSI v = false) : ¬ SIat h q := by
  rintro ⟨u, h1, h2⟩
  rw [hc] at h1
  cases h1
  rw [hv] at h2; cases h2
theorem noSI_blk {h : Hp} {q : Nat} {cs : Array Value} {t : TypeId} (hb : h[q]? = some (.cells cs t)) {v : Value} (hc : cs[0]? = some v) (hv : isSI v = false) : ¬ SIat h q := noSI_of ((cellH_at hb).trans hc) hv

section
variable {h h' : Hp} {k : Bool} {w : Nat}

theorem RowAt.tag {n : Nat} {v : B128} {r : Rw} (R : RowAt h k w n v r) : Tag h r.b 53 := R.own.blk rfl
theorem RowAt.noSI {n : Nat} {v : B128} {r : Rw} (R : RowAt h k w n v r) : ¬ SIat h r.b := noSI_of R.own.cellsA.1 rfl
theorem RowAt.keep {n : Nat} {v : B128} {r : Rw} (R : RowAt h k w n v r) (K : KeepsSI h h') (kb : h'[r.b]? = h[r.b]?) : RowAt h' k w n v r := ⟨R.own.keep1 kb, K.cells R.hm rfl, K.cells R.ha rfl⟩
theorem RowAt.ext {n : Nat} {v : B128} {r : Rw} (R : RowAt h k w n v r) (x : Ext h h') : RowAt h' k w n v r := ⟨R.own.ext x, x.cells R.hm, x.cells R.ha⟩

theorem GpAt.tag {g : Gp} (G : GpAt h k w g) : Tag h g.bg 246 := ⟨_, G.blk⟩
theorem GpAt.noSI {g : Gp} (G : GpAt h k w g) : ¬ SIat h g.bg := noSI_blk G.blk rfl rfl
theorem GpAt.isM {g : Gp} (G : GpAt h k w g) : IsM h g.br := let ⟨es, c, h1, _⟩ := G.map; ⟨es, c, h1⟩
theorem GpAt.keep {g : Gp} (G : GpAt h k w g) (K : KeepsSI h h') (k1 : h'[g.bg]? = h[g.bg]?) (k2 : h'[g.br]? = h[g.br]?) (k3 : ∀ p ∈ g.rows, h'[p.2.b]? = h[p.2.b]?) : GpAt h' k w g :=
  ⟨k1.trans G.blk, K.cells G.shp rfl, G.nw, G.map.congr k2, fun p hp => ⟨(G.row p hp).1, (G.row p hp).2.keep K (k3 p hp)⟩, G.nd⟩
theorem GpAt.ext {g : Gp} (G : GpAt h k w g) (x : Ext h h') : GpAt h' k w g :=
  ⟨x.at G.blk, x.cells G.shp, G.nw, G.map.ext x, fun p hp => ⟨(G.row p hp).1, (G.row p hp).2.ext x⟩, G.nd⟩
end

structure LSt (h : Hp) (k : Bool) (w bl : Nat) (L : LB) (N : Nat) (gv : Value) (gs : List Gp) : Prop where
  blk : h[bl]? = some (.cells (L.cells k N gv) 144)
  ok : LOk h w k L
  arr : Own h 0 239 1 gv gs.length (gs.map fun g => vP g.bg)
  ptr : ∀ q, gv.ownBlock = some q → ∃ p, cellH h ⟨q, 0, none⟩ = some (.pointer p)
  gp : ∀ g ∈ gs, GpAt h k w g
  nd1 : (gs.map (·.bg)).Nodup
  nd2 : (gs.map (·.br)).Nodup
  nd3 : (gs.flatMap fun g => g.rows.map fun p => p.2.b).Nodup

def Foot (bl : Nat) (gv : Value) (gs : List Gp) (q : Nat) : Prop := q = bl ∨ gv.ownBlock = some q ∨ ∃ g ∈ gs, q = g.bg ∨ q = g.br ∨ ∃ p ∈ g.rows, q = p.2.b

section
variable {h h' : Hp} {k : Bool} {w bl N : Nat} {L : LB} {gv : Value} {gs : List Gp}

theorem LSt.tagL (T : LSt h k w bl L N gv gs) : Tag h bl 144 := ⟨_, T.blk⟩
theorem LSt.tagA (T : LSt h k w bl L N gv gs) {q : Nat} (hq : gv.ownBlock = some q) : Tag h q 239 := T.arr.blk hq
theorem LSt.noSI_L (T : LSt h k w bl L N gv gs) : ¬ SIat h bl := noSI_blk T.blk rfl rfl
theorem LSt.noSI_A (T : LSt h k w bl L N gv gs) {q : Nat} (hq : gv.ownBlock = some q) : ¬ SIat h q := let ⟨_, hp⟩ := T.ptr q hq; noSI_of hp rfl
theorem LSt.noSI (T : LSt h k w bl L N gv gs) {q : Nat} (hq : Foot bl gv gs q) : ¬ SIat h q := by
  rcases hq with rfl | hq | ⟨g, hg, rfl | rfl | ⟨p, hp, rfl⟩⟩
  · exact T.noSI_L
  · exact T.noSI_A hq
  · exact (T.gp g hg).noSI
  · exact (T.gp g hg).isM.noSI
  · exact ((T.gp g hg).row p hp).2.noSI
theorem LSt.foot_lt (T : LSt h k w bl L N gv gs) {q : Nat} (hq : Foot bl gv gs q) : q < h.size := by
  rcases hq with rfl | hq | ⟨g, hg, rfl | rfl | ⟨p, hp, rfl⟩⟩
  · exact (Array.getElem?_eq_some_iff.1 T.blk).1
  · exact (T.arr.lt hq).2
  · exact (Array.getElem?_eq_some_iff.1 (T.gp g hg).blk).1
  · exact (T.gp g hg).map.lt
  · exact (((T.gp g hg).row p hp).2.own.lt rfl).2
theorem LSt.ext (T : LSt h k w bl L N gv gs) (x : Ext h h') : LSt h' k w bl L N gv gs :=
  ⟨x.at T.blk, T.ok.ext x, T.arr.ext x, fun q hq => let ⟨p, hp⟩ := T.ptr q hq; ⟨p, (x.cells (vs := [.pointer p]) (cellsAt_one hp)).1⟩, fun g hg => (T.gp g hg).ext x, T.nd1, T.nd2, T.nd3⟩
theorem LSt.frame (T : LSt h k w bl L N gv gs) (K : KeepsSI h h') (kf : ∀ q, Foot bl gv gs q → h'[q]? = h[q]?) : LSt h' k w bl L N gv gs :=
  ⟨(kf bl (.inl rfl)).trans T.blk, K.lok T.ok, T.arr.keep fun q hq => kf q (.inr (.inl hq)), fun q hq => let ⟨p, hp⟩ := T.ptr q hq; ⟨p, (cellsAt_congr (vs := [.pointer p]) (kf q (.inr (.inl hq))) (cellsAt_one hp)).1⟩,
   fun g hg => (T.gp g hg).keep K (kf _ (.inr (.inr ⟨g, hg, .inl rfl⟩))) (kf _ (.inr (.inr ⟨g, hg, .inr (.inl rfl)⟩))) (fun p hp => kf _ (.inr (.inr ⟨g, hg, .inr (.inr ⟨p, hp, rfl⟩)⟩))), T.nd1, T.nd2, T.nd3⟩

theorem LSt.setList (T : LSt h k w bl L N gv gs) {N' : Nat} {gv' : Value} {gs' : List Gp} (kk : ∀ q, q < h.size → q ≠ bl → gv.ownBlock ≠ some q → h'[q]? = h[q]?) (hb : h'[bl]? = some (.cells (L.cells k N' gv') 144))
    (ha : Own h' 0 239 1 gv' gs'.length (gs'.map fun g => vP g.bg)) (hp : ∀ q, gv'.ownBlock = some q → ∃ p, cellH h' ⟨q, 0, none⟩ = some (.pointer p)) (hg : ∀ g ∈ gs', g ∈ gs ∨ GpAt h' k w g)
    (n1 : (gs'.map (·.bg)).Nodup) (n2 : (gs'.map (·.br)).Nodup) (n3 : (gs'.flatMap fun g => g.rows.map fun p => p.2.b).Nodup) : LSt h' k w bl L N' gv' gs' := by
  have hlt : ∀ q, SIat h q → q < h.size := by
    rintro q ⟨v, hv, _⟩
    exact cellH_lt hv
  have K : KeepsSI h h' := fun q hq => kk q (hlt q hq) (fun e => T.noSI_L (e ▸ hq)) (fun e => T.noSI_A e hq)
  refine ⟨hb, K.lok T.ok, ha, hp, fun g h1 => ?_, n1, n2, n3⟩
  rcases hg g h1 with h2 | h2
  · have G := T.gp g h2
    refine G.keep K (kk _ (Array.getElem?_eq_some_iff.1 G.blk).1 (G.tag.ne T.tagL (by decide)) fun e => (G.tag.ne (T.tagA e) (by decide)) rfl) (kk _ G.map.lt (fun e => T.tagL.neM G.isM e.symm) fun e => (T.tagA e).neM G.isM rfl) fun p hp => ?_
    have R := (G.row p hp).2
    exact kk _ (R.own.lt rfl).2 (R.tag.ne T.tagL (by decide)) fun e => (R.tag.ne (T.tagA e) (by decide)) rfl
  · exact h2

theorem nodup_at {α β : Type} {l : List α} {f : α → β} (h : (l.map f).Nodup) {i j : Nat} {a b : α} (hi : l[i]? = some a) (hj : l[j]? = some b) (e : f a = f b) : i = j := by
  obtain ⟨h1, rfl⟩ := List.getElem?_eq_some_iff.1 hi
  obtain ⟨h2, rfl⟩ := List.getElem?_eq_some_iff.1 hj
  have hp := List.pairwise_iff_getElem.1 h
  rcases Nat.lt_trichotomy i j with h3 | h3 | h3
  · exact (hp i j (by simpa using h1) (by simpa using h2) h3 (by simpa using e)).elim
  · exact h3
  · exact (hp j i (by simpa using h2) (by simpa using h1) h3 (by simpa using e.symm)).elim

theorem LSt.setGroup (T : LSt h k w bl L N gv gs) {i : Nat} {g : Gp} (hi : gs[i]? = some g) {m' : Nat} {gr' : Int} (kk : ∀ q, q ≠ g.bg → h'[q]? = h[q]?) (hb : h'[g.bg]? = some (.cells #[sl g.bs 1 g.cs, .map (some g.br), vI m', vZ gr'] 246)) :
    LSt h' k w bl L N gv (gs.set i { g with m := m', gr := gr' }) := by
  have hg := List.mem_of_getElem? hi
  have G := T.gp g hg
  have K : KeepsSI h h' := fun q hq => kk q (fun e => G.noSI (e ▸ hq))
  have him : i < gs.length := (List.getElem?_eq_some_iff.1 hi).1
  have e1 : ∀ {β : Type} (f : Gp → β), f { g with m := m', gr := gr' } = f g → (gs.set i { g with m := m', gr := gr' }).map f = gs.map f := by
    intro β f hf
    apply List.ext_getElem?
    intro j
    rw [List.getElem?_map, List.getElem?_map, List.getElem?_set]
    by_cases hij : i = j
    · subst hij; rw [if_pos rfl, if_pos him, hi]; simp [hf]
    · rw [if_neg hij]
  refine ⟨(kk _ (T.tagL.ne G.tag (by decide))).trans T.blk, K.lok T.ok, ?_, fun q hq => ?_, fun x hx => ?_, ?_, ?_, ?_⟩
  · rw [e1 (fun g => vP g.bg) rfl, List.length_set]
    exact T.arr.keep fun q hq => kk q ((T.tagA hq).ne G.tag (by decide))
  · obtain ⟨p, hp⟩ := T.ptr q hq
    exact ⟨p, (cellsAt_congr (vs := [.pointer p]) (kk q ((T.tagA hq).ne G.tag (by decide))) (cellsAt_one hp)).1⟩
  · obtain ⟨j, hj⟩ := List.getElem?_of_mem hx
    rw [List.getElem?_set] at hj
    by_cases hij : i = j
    · subst hij
      rw [if_pos rfl, if_pos him] at hj
      cases hj
      exact ⟨hb, K.cells G.shp rfl, G.nw, G.map.congr (kk _ (fun e => G.tag.neM G.isM e.symm)), fun p hp => ⟨(G.row p hp).1, (G.row p hp).2.keep K (kk _ ((G.row p hp).2.tag.ne G.tag (by decide)))⟩, G.nd⟩
    · rw [if_neg hij] at hj
      have X := T.gp x (List.mem_of_getElem? hj)
      exact X.keep K (kk _ (fun e => hij (nodup_at T.nd1 hi hj e.symm))) (kk _ (fun e => G.tag.neM X.isM e.symm)) fun p hp => kk _ ((X.row p hp).2.tag.ne G.tag (by decide))
  · rw [e1 _ rfl]; exact T.nd1
  · rw [e1 _ rfl]; exact T.nd2
  · rw [List.flatMap_def, e1 _ rfl, ← List.flatMap_def]; exact T.nd3
end
end Go.Vc
