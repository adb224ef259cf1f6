/- TopLongest: doing an operation; the deferred undoing. -/
import Derived.Test.YtamhpfdcnfgngaaGreatTnF
set_option maxRecDepth 10000
namespace Go.Vc
open Go Go.Proofs Go.MapKept

section
variable {h h' : Hp} {w : Nat} {X : TB} {N : Bool → Nat} {gv : Bool → Value} {gs : Bool → List Gp}

theorem back0_c {L b : Nat} (hb : cellsAt h b 0 [nilS]) : CallsH Tryz.prog 72 #[.func (.yield L) #[] #[], vP b] h fun e h' => h' = h ∧ e = .returned (.tuple #[]) := by
  refine V72 _ _ h _ ⟨b, 0, rfl, _, _, _, hb, -1, by decide, fun vs q => vs = [vZ (-1)] ∧ q = h, fun _ _ => 0, ⟨rfl, rfl⟩, ?_⟩
  rintro i q ⟨hv, rfl⟩
  cases hv
  exact ⟨fun hf => absurd hf (by decide), fun _ => ⟨rfl, rfl⟩⟩

theorem undo_c {b1 b0 b2 : Nat} {e : Int} (h1 : cellsAt h b1 0 [vZ e]) (h0 : cellsAt h b0 0 [.bool false]) (h2 : e ≠ 0 → cellsAt h b2 0 [nilS]) :
    DefH Tryz.prog 49 #[vP b1, vP b0, vP b2] .returning h fun u' h' => u' = .returning ∧ Ext h h' := by
  refine V49 _ _ _ _ h (Ext h) ⟨decide (e ≠ 0), ⟨b1, 0, rfl, e, h1, fun hd => ⟨rfl, hd⟩, fun hd => ⟨b0, 0, rfl, false, h0, rfl, hd⟩⟩, fun hB => ?_, fun _ => ⟨⟨_, rfl⟩, Ext.refl _⟩⟩
  refine ⟨b2, 0, rfl, _, _, _, h2 (of_decide_eq_true hB), V50 _ _ _ h _ ?_⟩
  rintro b hp rfl rfl
  have xp := Ext.push h (.cells #[nilS] 145)
  have cp := push_last (h := h) (o := .cells #[nilS] 145)
  generalize h.push (.cells #[nilS] 145) = hp at *
  refine ⟨_, rfl, 72, #[vP h.size], rfl, by kernel_rfl, ?_⟩
  rintro D L hv oR oB oE oD oX hD hL hhv _
  have xv : Ext hp hv := by rw [hhv]; exact (Ext.push _ _).box _
  have cD : hv[D]? = some (.deferred (some [])) := by rw [hhv, hD]; exact (Ext.push _ _).at push_last
  have cL : hv[L]? = some oR := by
    rw [hhv, hL]
    have := push_last (h := hp.push (.deferred (some []))) (o := oR)
    rwa [Array.size_push] at this
  have zv : hv.size = hp.size + 2 := by rw [hhv]; simp
  clear hhv
  have hne : L ≠ D := by omega
  have xs := xp.size
  refine (back0_c (cellsAt_all (vs := [nilS]) (xv.at cp))).mono ?_
  rintro en q ⟨rfl, rfl⟩
  refine ⟨⟨_, rfl⟩, .inl ⟨cL, ?_⟩⟩
  intro h3 hh3
  have c3 : h3[D]? = some (.deferred (some [])) := by rw [hh3, setO, Array.getElem?_setIfInBounds_ne hne]; exact cD
  refine ⟨c3, ?_⟩
  intro h4 hh4
  refine ⟨⟨_, rfl⟩, ?_⟩
  have xx := xp.trans xv
  refine ⟨?_, fun j hj => ?_⟩
  · rw [hh4, hh3]; simp only [setO, Array.size_setIfInBounds]; exact xx.size
  · rw [hh4, hh3, setO, setO, Array.getElem?_setIfInBounds_ne (by omega), Array.getElem?_setIfInBounds_ne (by omega)]
    exact xx.old j hj

def SetIs (h : Hp) (w : Nat) (X : TB) (Z : Nat → Prop) (m : Bool → Nat) (E : Bool → Nat → B128 → BitVec 64 → Prop) : Prop :=
  ∃ N gv gs, SetAt h w X N gv gs ∧ (∀ k, N k ≤ m k) ∧ (∀ k q, Foot (X.o k).bl (gv k) (gs k) q → Z q) ∧ ∀ k n v y, Ent (gs k) n v y ↔ E k n v y
theorem SetIs.ext {Z : Nat → Prop} {m : Bool → Nat} {E : Bool → Nat → B128 → BitVec 64 → Prop} (D : SetIs h w X Z m E) (x : Ext h h') : SetIs h' w X Z m E :=
  let ⟨N, gv, gs, d, a, b, e⟩ := D; ⟨N, gv, gs, d.ext x, a, b, e⟩
theorem SetIs.wide {Z Z' : Nat → Prop} {m : Bool → Nat} {E : Bool → Nat → B128 → BitVec 64 → Prop} (D : SetIs h w X Z m E) (hz : ∀ q, Z q → Z' q) : SetIs h w X Z' m E :=
  let ⟨N, gv, gs, d, a, b, e⟩ := D; ⟨N, gv, gs, d, a, fun k q hq => hz q (b k q hq), e⟩
abbrev Zn (Z : Nat → Prop) (h : Hp) : Nat → Prop := fun q => Z q ∨ h.size ≤ q

def addE' (E : Bool → Nat → B128 → BitVec 64 → Prop) (k : Bool) (n : Nat) (v : B128) (y : BitVec 64) : Bool → Nat → B128 → BitVec 64 → Prop :=
  fun k' n' v' y' => E k' n' v' y' ∨ (k' = k ∧ n' = n ∧ v' = v ∧ y' = y)
def delE' (E : Bool → Nat → B128 → BitVec 64 → Prop) (k : Bool) (n : Nat) (v : B128) : Bool → Nat → B128 → BitVec 64 → Prop :=
  fun k' n' v' y' => E k' n' v' y' ∧ ¬ (k' = k ∧ n' = n ∧ v' = v)

theorem putM : methF Tryz.prog 83 "Put" = some 153 := by kernel_rfl
theorem dropM : methF Tryz.prog 83 "Drop" = some 149 := by kernel_rfl
theorem findM : methF Tryz.prog 83 "Find" = some 150 := by kernel_rfl

theorem doI_c {Z : Nat → Prop} {m : Bool → Nat} {E : Bool → Nat → B128 → BitVec 64 → Prop} (D : SetIs h w X Z m E) (k : Bool) (hm' : m k < 200) {mp mc n ab ac : Nat} {v : B128} {y : BitVec 64} (hm : cellsAt h mp 0 (mcells k w n v)) (hn : n ≤ w) (hv : v &&& msk w n = v) (ha : cellsAt h ab 0 [.int .u64 0, vW y]) :
    CallsH Tryz.prog 52 #[vP (X.o k).bo, .agg #[vI 1, .string (nm k), sl mp 1 mc, vI (cond k (n + 1) 0), .string sOut, sl ab 1 ac]] h fun e h' => ∃ f, f.oneCell' = true ∧ Sam Z h h' ∧
      ((e = .returned (.tuple #[vI 121, f]) ∧ (∃ y, E k n v y) ∧ SetIs h' w X (Zn Z h) m E) ∨ (e = .returned (.tuple #[vI 0, f]) ∧ (¬ ∃ y, E k n v y) ∧ SetIs h' w X (Zn Z h) (upd m k (m k + 1)) (addE' E k n v y))) := by
  obtain ⟨N, gv, gs, d, hNm, hb, hE⟩ := D
  refine V52 _ _ _ _ _ _ _ _ _ _ _ h _ ?_
  rintro b0 h0 rfl rfl b1 h1 hb1 hh1
  have x1 : Ext h h1 := by rw [hh1]; exact (Ext.push _ _).box _
  have c0 : h1[h.size]? = some (.cells #[vP (X.o k).bo] 74) := by rw [hh1]; exact (Ext.push _ _).at push_last
  have c1 : h1[b1]? = some (.cells #[vI 1, .string (nm k), sl mp 1 mc, vI (cond k (n + 1) 0), .string sOut, sl ab 1 ac] 55) := by rw [hh1, hb1]; exact push_last
  clear hh1 hb1
  have d1 := d.ext x1
  have ce : cellsAt h1 b1 (0 + 2) [sl mp 1 mc, vI (cond k (n + 1) 0), .string sOut, sl ab 1 ac] := ⟨cellH_at c1, cellH_at c1, cellH_at c1, cellH_at c1, trivial⟩
  refine ⟨_, cellsAt_one (cellH_at c1), fun _ => ⟨_, cellsAt_all (vs := [vP (X.o k).bo]) c0, _, 0, rfl, _, cellsAt_one (cellH_at (d1.one k).blk), _, _, _, _, _, _, _, _, ce, 83, _, 153, rfl, putM, by kernel_rfl, ?_⟩, fun hf => absurd hf (by decide)⟩
  refine (Put_c (d1.lst k) (d1.good k).1 (by have := hNm k; omega) (x1.cells hm) hn hv (x1.cells ha)).mono ?_
  rintro en h2 ⟨p1, p2⟩
  have hent := has_ent (gs := gs k) (n := n) (v := v) (d.good k).1.nd
  cases hh : hasV (findG (gs k) n) v with
  | true =>
    obtain ⟨rfl, x2⟩ := p1 hh
    refine ⟨_, rfl, _, rfl, Sam.of_ext (x1.trans x2), .inl ⟨rfl, ?_, ⟨N, gv, gs, d.ext (x1.trans x2), hNm, fun k q hq => .inl (hb k q hq), hE⟩⟩⟩
    obtain ⟨y, hy⟩ := hent.1 hh
    exact ⟨y, (hE k n v y).1 hy⟩
  | false =>
    obtain ⟨rfl, gv', gs', T', G', S', E', F', f'⟩ := p2 hh
    obtain ⟨d2, s2, b2⟩ := d1.step k hb T' ⟨G', S'⟩ F' f'
    refine ⟨_, rfl, _, rfl, (Sam.of_ext x1).trans s2 (fun q hq => .inl hq), .inr ⟨rfl, ?_, ⟨_, _, _, d2, fun j => ?_, fun j q hq => (b2 j q hq).imp id (fun e => Nat.le_trans x1.size e), fun j n' v' y' => ?_⟩⟩⟩
    · rintro ⟨y', hy⟩
      have := hent.2 ⟨y', (hE k n v y').2 hy⟩
      rw [hh] at this; cases this
    · by_cases hj : j = k
      · subst hj; rw [upd_at, upd_at]; have := hNm j; omega
      · rw [upd_ne _ _ hj, upd_ne _ _ hj]; have := hNm j; omega
    · by_cases hj : j = k
      · subst hj
        rw [upd_at, E', hE]
        simp only [addE', true_and]
      · rw [upd_ne _ _ hj, hE]
        simp only [addE', hj, false_and, or_false]

theorem doD_c {Z : Nat → Prop} {m : Bool → Nat} {E : Bool → Nat → B128 → BitVec 64 → Prop} (D : SetIs h w X Z m E) (k : Bool) (hm' : m k ≤ 200) {mp mc n : Nat} {v : B128} (hm : cellsAt h mp 0 (mcells k w n v)) (hn : n ≤ w) (hv : v &&& msk w n = v) :
    CallsH Tryz.prog 52 #[vP (X.o k).bo, .agg #[vI 3, .string (nm k), sl mp 1 mc, vI (cond k (n + 1) 0), .string ⟨#[]⟩, nilS]] h fun e h' => ∃ f, f.oneCell' = true ∧ Sam Z h h' ∧
      ((e = .returned (.tuple #[vI 122, f]) ∧ (¬ ∃ y, E k n v y) ∧ SetIs h' w X (Zn Z h) m E) ∨ (e = .returned (.tuple #[vI 0, f]) ∧ (∃ y, E k n v y) ∧ SetIs h' w X (Zn Z h) m (delE' E k n v))) := by
  obtain ⟨N, gv, gs, d, hNm, hb, hE⟩ := D
  refine V52 _ _ _ _ _ _ _ _ _ _ _ h _ ?_
  rintro b0 h0 rfl rfl b1 h1 hb1 hh1
  have x1 : Ext h h1 := by rw [hh1]; exact (Ext.push _ _).box _
  have c0 : h1[h.size]? = some (.cells #[vP (X.o k).bo] 74) := by rw [hh1]; exact (Ext.push _ _).at push_last
  have c1 : h1[b1]? = some (.cells #[vI 3, .string (nm k), sl mp 1 mc, vI (cond k (n + 1) 0), .string ⟨#[]⟩, nilS] 55) := by rw [hh1, hb1]; exact push_last
  have n1 : b1 = h.size + 1 := by rw [hb1]; simp
  clear hh1 hb1
  have d1 := d.ext x1
  have ce : cellsAt h1 b1 (0 + 2) [sl mp 1 mc, vI (cond k (n + 1) 0), .string ⟨#[]⟩, nilS] := ⟨cellH_at c1, cellH_at c1, cellH_at c1, cellH_at c1, trivial⟩
  have hent := has_ent (gs := gs k) (n := n) (v := v) (d.good k).1.nd
  -- what the call brings
  have junk : ∀ (h2 q2 : Hp) (N' : Bool → Nat) (gv' : Bool → Value) (gs' : Bool → List Gp) (E' : Bool → Nat → B128 → BitVec 64 → Prop), SetAt h2 w X N' gv' gs' → (∀ j, N' j ≤ m j) → (∀ j b, Foot (X.o j).bl (gv' j) (gs' j) b → Z b ∧ b < h.size) → Sam Z h h2 → (∀ k n v y, Ent (gs' k) n v y ↔ E' k n v y) →
      KeepsSI h2 q2 → (∀ b, b < h.size → q2[b]? = h2[b]?) → h2.size ≤ q2.size → SetIs q2 w X (Zn Z h) m E' ∧ Sam Z h q2 := by
    intro h2 q2 N' gv' gs' E' d2 n2 f2 s2 e2 K low sz
    have s3 : Sam Z h q2 := ⟨Nat.le_trans s2.size sz, s2.si.trans K, fun q hq hn => (low q hq).trans (s2.loc q hq hn)⟩
    have ht := (Array.getElem?_eq_some_iff.1 d.blk).1
    have hlb := (d.arr.lt (k := X.lb) rfl).2
    exact ⟨⟨N', gv', gs', ⟨(low _ ht).trans d2.blk, K.sch d2.S, d2.arr.keep1 (low _ hlb), fun j => K.one (d2.one j), fun j => (d2.lst j).frame K fun q hq => low q (f2 j q hq).2, d2.good, d2.dis⟩, n2, fun j q hq => .inl (f2 j q hq).1, e2⟩, s3⟩
  have drop : ∀ q, Ext h1 q → CallsH Tryz.prog 149 #[vP (X.o k).bl, .agg #[sl mp 1 mc, vI (cond k (n + 1) 0), .string ⟨#[]⟩, nilS]] q fun e h2 => ∃ p1 n1 c1 i1 s1 p2 n2 c2 is, e = .returned (.tuple #[.agg #[.slice p1 n1 c1, .int .i64 i1, .string s1, .slice p2 n2 c2], .bool is]) ∧
      q.size ≤ h2.size ∧ KeepsSI h h2 ∧ (∀ b, h.size ≤ b → b < q.size → h2[b]? = q[b]?) ∧ ∀ q2, KeepsSI h2 q2 → (∀ b, b < h.size → q2[b]? = h2[b]?) → h2.size ≤ q2.size →
        Sam Z h q2 ∧ ((is = false ∧ (¬ ∃ y, E k n v y) ∧ SetIs q2 w X (Zn Z h) m E) ∨ (is = true ∧ (∃ y, E k n v y) ∧ SetIs q2 w X (Zn Z h) m (delE' E k n v))) := by
    intro q xq
    have xhq := x1.trans xq
    have dq := d.ext xhq
    refine (Drop_c (dq.lst k) (dq.good k).1 (dq.good k).2 (by have := hNm k; omega) (xhq.cells hm) hn hv).mono ?_
    rintro en h2 ⟨p1, p2⟩
    cases hh : hasV (findG (gs k) n) v with
    | false =>
      obtain ⟨rfl, x2⟩ := p1 hh
      have s2 : Sam Z h h2 := Sam.of_ext (xhq.trans x2)
      refine ⟨_, _, _, _, _, _, _, _, _, rfl, x2.size, s2.si, fun b _ h2 => x2.old b h2, fun q2 K low sz => ?_⟩
      obtain ⟨j1, j2⟩ := junk h2 q2 N gv gs E (d.ext (xhq.trans x2)) hNm (fun j b hb' => ⟨hb j b hb', (d.lst j).foot_lt hb'⟩) s2 hE K low sz
      refine ⟨j2, .inl ⟨rfl, ?_, j1⟩⟩
      rintro ⟨y', hy⟩
      have := hent.2 ⟨y', (hE k n v y').2 hy⟩
      rw [hh] at this; cases this
    | true =>
      obtain ⟨⟨q1, n1, c1, i1, s1, q2, n2, c2, rfl⟩, gv', gs', T', G', S', E', F', f'⟩ := p2 hh
      obtain ⟨d2, s2, b2⟩ := dq.step k hb T' ⟨G', S'⟩ F' (fun b hb => .inl (f' b hb))
      have s3 := (Sam.of_ext (Z := Z) xhq).trans s2 (fun q hq => .inl hq)
      refine ⟨_, _, _, _, _, _, _, _, _, rfl, F'.size, s3.si, fun b h1 h2 => F'.old b h2 (fun hf => by have := (d.lst k).foot_lt hf; omega), fun qq K low sz => ?_⟩
      have J : SetIs qq w X (Zn Z h) m (delE' E k n v) ∧ Sam Z h qq := by
        refine junk h2 qq _ _ _ (delE' E k n v) d2 (fun j => ?_) (fun j b hb' => (fun hlt => ⟨(b2 j b hb').elim id (fun e => by have := xhq.size; omega), hlt⟩) ?_) s3 (fun j n' v' y' => ?_) K low sz
        · by_cases hj : j = k
          · subst hj; rw [upd_at]; have := hNm j; omega
          · rw [upd_ne _ _ hj]; have := hNm j; omega
        · by_cases hj : j = k
          · subst hj
            rw [upd_at, upd_at] at hb'
            exact (d.lst j).foot_lt (f' b hb')
          · rw [upd_ne _ _ hj, upd_ne _ _ hj] at hb'
            exact (d.lst j).foot_lt hb'
        · by_cases hj : j = k
          · subst hj
            rw [upd_at, E', hE]
            simp only [delE', true_and]
          · rw [upd_ne _ _ hj, hE]
            simp only [delE', hj, false_and, not_false_eq_true, and_true]
      obtain ⟨y, hy⟩ := hent.1 hh
      exact ⟨J.2, .inr ⟨rfl, ⟨y, (hE k n v y).1 hy⟩, J.1⟩⟩
  have hzb : h.size < h1.size := (Array.getElem?_eq_some_iff.1 c0).1
  have hb1 := (Array.getElem?_eq_some_iff.1 c1).1
  have hbo := (Array.getElem?_eq_some_iff.1 (d.one k).blk).1
  have hsb : SIat h (X.o k).bo := ⟨_, (cellH_at (d.one k).blk).trans rfl, rfl⟩
  have obo : h1[(X.o k).bo]? = h[(X.o k).bo]? := x1.old _ hbo
  refine ⟨_, cellsAt_one (cellH_at c1), fun hf => absurd hf (by decide), fun _ => ⟨fun hf => absurd hf (by decide), fun _ => ⟨fun _ => ?_, fun hf => absurd hf (by decide)⟩⟩⟩
  have cls : ∀ q : Hp, (q[h.size]? = h1[h.size]? ∧ q[b1]? = h1[b1]? ∧ q[(X.o k).bo]? = h1[(X.o k).bo]?) → cellsAt q h.size 0 [vP (X.o k).bo] ∧ cellsAt q (X.o k).bo (0 + 10) [.iface 83 (vP (X.o k).bl)] ∧ cellsAt q b1 (0 + 2) [sl mp 1 mc, vI (cond k (n + 1) 0), .string ⟨#[]⟩, nilS] := fun q hq =>
    ⟨cellsAt_congr hq.1 (cellsAt_all (vs := [vP (X.o k).bo]) c0), cellsAt_congr hq.2.2 (cellsAt_one (cellH_at (d1.one k).blk)), cellsAt_congr hq.2.1 ce⟩
  refine ⟨fun vs q => ∃ wb is, vs = [vP wb, .bool is] ∧ Sam Z h q ∧ ((is = false ∧ (¬ ∃ y, E k n v y) ∧ SetIs q w X (Zn Z h) m E) ∨ (is = true ∧ (∃ y, E k n v y) ∧ SetIs q w X (Zn Z h) m (delE' E k n v))), ⟨?_, ?_⟩, ?_⟩
  · refine ⟨fun q => q[h.size]? = h1[h.size]? ∧ q[b1]? = h1[b1]? ∧ q[(X.o k).bo]? = h1[(X.o k).bo]?, ⟨rfl, rfl, rfl⟩, _, fun q hq => (cls q hq).1, _, 0, rfl, _, fun q hq => (cls q hq).2.1, _, _, _, _, _, _, _, _, fun q hq => (cls q hq).2.2, 83, _, 149, rfl, dropM, by kernel_rfl, ?_⟩
    refine (drop h1 (Ext.refl _)).mono ?_
    rintro en h2 ⟨p1, m1, c1', i1, s1, p2, m2, c2, is, rfl, z2, K2, k2, fin⟩
    have cv2 : h2[h.size]? = h1[h.size]? ∧ h2[b1]? = h1[b1]? ∧ h2[(X.o k).bo]? = h1[(X.o k).bo]? := ⟨k2 _ (Nat.le_refl _) hzb, k2 _ (by omega) hb1, (K2 _ hsb).trans obo.symm⟩
    refine ⟨_, _, _, _, _, _, _, _, _, rfl, cv2, ?_⟩
    rintro b4 h4 rfl rfl
    have x4 := Ext.push h2 (.cells (zeros Tryz.prog 53) 53)
    have old : ∀ q, Ext h2 q → q[h.size]? = h1[h.size]? ∧ q[b1]? = h1[b1]? ∧ q[(X.o k).bo]? = h1[(X.o k).bo]? := fun q xq => ⟨(xq.old _ (by omega)).trans cv2.1, (xq.old _ (by omega)).trans cv2.2.1, (xq.old _ (by omega)).trans cv2.2.2⟩
    refine ⟨info53, old _ x4, stoT (n := 4) x4 (Nat.le_refl _) push_last rfl z53_size (by simp [Value.oneCell']) fun q xq zq cq kq => ⟨old _ xq, h2.size, is, rfl, ?_⟩⟩
    exact fin q (fun b ⟨u, hu, _⟩ => xq.old b (cellH_lt hu)) (fun b hb => xq.old b (by omega)) xq.size
  · refine ⟨fun q => q[h.size]? = h1[h.size]? ∧ q[b1]? = h1[b1]? ∧ q[(X.o k).bo]? = h1[(X.o k).bo]?, ⟨rfl, rfl, rfl⟩, _, fun q hq => (cls q hq).1, _, 0, rfl, _, fun q hq => (cls q hq).2.1, _, _, _, _, _, _, _, _, fun q hq => (cls q hq).2.2, ?_⟩
    rintro b6 h6 rfl rfl
    have x6 := Ext.push h1 (.cells (zeros Tryz.prog 53) 53)
    have c6 := push_last (h := h1) (o := .cells (zeros Tryz.prog 53) 53)
    generalize hh6 : h1.push (.cells (zeros Tryz.prog 53) 53) = h6 at *
    have z6 : h6.size = h1.size + 1 := by rw [← hh6]; simp
    refine ⟨info53, ⟨x6.old _ hzb, x6.old _ hb1, x6.old _ (by omega)⟩, 83, _, 149, rfl, dropM, by kernel_rfl, ?_⟩
    refine (drop h6 x6).mono ?_
    rintro en h2 ⟨p1, m1, c1', i1, s1, p2, m2, c2, is, rfl, z2, K2, k2, fin⟩
    have cv2 : h2[h.size]? = h1[h.size]? ∧ h2[b1]? = h1[b1]? ∧ h2[(X.o k).bo]? = h1[(X.o k).bo]? := ⟨(k2 _ (Nat.le_refl _) (by omega)).trans (x6.old _ hzb), (k2 _ (by omega) (by omega)).trans (x6.old _ hb1), (K2 _ hsb).trans obo.symm⟩
    have c62 : h2[h1.size]? = some (.cells (zeros Tryz.prog 53) 53) := (k2 _ (by omega) (by omega)).trans c6
    refine ⟨_, _, _, _, _, _, _, _, _, rfl, cv2, rfl, (by simp [Value.oneCell']), wrAt_of c62 (by rw [z53_size]; decide) (.inl (Nat.zero_le _)), ?_⟩
    intro q hq
    have kq : ∀ b, b ≠ h1.size → q[b]? = h2[b]? := fun b hb => by rw [hq]; exact setsH_ne hb
    have zq : q.size = h2.size := by rw [hq]; exact setsH_size
    refine ⟨⟨(kq _ (by omega)).trans cv2.1, (kq _ (by omega)).trans cv2.2.1, (kq _ (by omega)).trans cv2.2.2⟩, h1.size, is, rfl, ?_⟩
    exact fin q (fun b hb => kq b fun e => noSI_blk (v := nilS) c62 (by kernel_rfl) rfl (e ▸ hb)) (fun b hb => kq b (by omega)) (by omega)
  · rintro wb is h9 ⟨wb', is', hvs, s9, hcase⟩
    cases hvs
    rcases hcase with ⟨rfl, hno, S9⟩ | ⟨rfl, hyes, S9⟩
    · exact ⟨fun _ => ⟨_, rfl, s9, .inl ⟨rfl, hno, S9⟩⟩, (fun hf => by cases hf)⟩
    · exact ⟨(fun hf => by cases hf), fun _ => ⟨_, rfl, s9, .inr ⟨rfl, hyes, S9⟩⟩⟩
end
end Go.Vc
