/- TopLongest: a set's table; what is right with an operation; doing it. -/
import Derived.Test.YtamhpfdcnfgngaaGreatTnE
set_option maxRecDepth 10000
namespace Go.Vc
open Go Go.Proofs Go.MapKept

section
variable {h h' : Hp} {w : Nat} {X : TB} {N : Bool → Nat} {gv : Bool → Value} {gs : Bool → List Gp}

theorem SetAt.bo_ne (D : SetAt h w X N gv gs) : (X.o false).bo ≠ (X.o true).bo := by
  intro e
  have h1 := (D.one false).blk
  have h2 := (D.one true).blk
  rw [e, h2] at h1
  have h3 := congrArg (fun o : Option Obj => match o with | some (.cells cs _ _) => cs[0]? | _ => none) h1
  simp [One.cells] at h3

theorem table_of_c (D : SetAt h w X N gv gs) (k : Bool) : CallsH Tryz.prog 22 #[vP X.t, .string (nm k)] h (RetX (vP (X.o k).bo) h) := by
  refine V22 _ _ h _ ?_
  rintro b0 h0 rfl rfl
  have x0 := Ext.push h (.cells #[.string (nm k)] 9)
  have c0 := push_last (h := h) (o := .cells #[.string (nm k)] 9)
  generalize h.push (.cells #[.string (nm k)] 9) = h0 at *
  have D0 := D.ext x0
  have hseg : SegS h0 (some ⟨X.lb, 0, none⟩) 2 1 [[vP (X.o false).bo], [vP (X.o true).bo]] := seg_of rfl (by simp) D0.arr.cellsA
  have hcl : ∀ (j : Bool) (q : Hp), Ext h0 q → CallsH Tryz.prog 54 #[vP (X.o j).bo, vP h.size] q (RetX (.bool (decide ((X.o j).bo = (X.o k).bo))) q) := fun j q xq => by
    refine V54 _ _ q _ ⟨_, 0, rfl, _, cellsAt_one (cellH_at (xq.at (D0.one j).blk)), h.size, 0, rfl, _, cellsAt_all (vs := [.string (nm k)]) (xq.at c0), ?_, Ext.refl _⟩
    congr 2
    apply decide_eq_decide.2
    have hne := D.bo_ne
    cases j <;> cases k
    · simp
    · exact ⟨fun e => absurd e (by decide), fun e => absurd e hne⟩
    · exact ⟨fun e => absurd e (by decide), fun e => absurd e.symm hne⟩
    · simp
  refine ⟨false, eqv_ptr (e := 69) (by kernel_rfl) _, (fun hf => by cases hf), fun _ => ⟨X.t, 0, rfl, _, _, _, cellsAt_one (cellH_at D0.blk), ?_⟩⟩
  refine (idx53_at hseg (by decide) (by simp) (by kernel_rfl) (pr := fun r => match r with | [.pointer (some a)] => decide (a.block = (X.o k).bo) | _ => false) ?_ (k := k.toNat) (by cases k <;> simp) ?_ ?_).mono ?_
  · intro r hr q xq
    simp only [List.mem_cons, List.not_mem_nil, or_false] at hr
    rcases hr with rfl | rfl
    · exact hcl false q xq
    · exact hcl true q xq
  · cases k <;> simp
  · intro j hj
    cases k
    · exact absurd hj (Nat.not_lt_zero _)
    · obtain rfl : j = 0 := by have : j < 1 := hj; omega
      have := D.bo_ne
      simpa using this
  rintro en h1 ⟨rfl, x1⟩
  have D1 := D0.ext x1
  refine ⟨_, rfl, fun hf => by have := of_decide_eq_true hf; omega, fun _ => ⟨X.t, 0, rfl, _, _, _, cellsAt_one (cellH_at D1.blk), X.lb, 0, rfl, by omega, by cases k <;> decide, _, ?_, rfl, x0.trans x1⟩⟩
  have := D1.arr.cellsA
  cases k
  · exact ⟨this.1, trivial⟩
  · exact ⟨this.2.1, trivial⟩

theorem rightI_c (D : SetAt h w X N gv gs) (k : Bool) {mp mc n ab ac : Nat} {v : B128} {y : BitVec 64} (hm : cellsAt h mp 0 (mcells k w n v)) (hn : n ≤ w) (hv : v &&& msk w n = v) (ha : cellsAt h ab 0 [.int .u64 0, vW y]) :
    CallsH Tryz.prog 51 #[vP X.t, .agg #[vI 1, .string (nm k), sl mp 1 mc, vI (cond k (n + 1) 0), .string sOut, sl ab 1 ac]] h (RetX (vZ 0) h) := by
  refine V51 _ _ _ _ _ _ _ _ _ _ _ h _ ?_
  rintro b0 h0 rfl hh0
  have x0 : Ext h h0 := by rw [hh0]; exact Ext.push _ _
  have c0 : h0[h.size]? = some (.cells #[vI 1, .string (nm k), sl mp 1 mc, vI (cond k (n + 1) 0), .string sOut, sl ab 1 ac] 55) := by rw [hh0]; exact push_last
  clear hh0
  refine ⟨false, ⟨_, cellsAt_one (cellH_at c0), fun hf => absurd hf (by decide), fun _ => ⟨rfl, rfl⟩⟩, false, ⟨_, _, _, cellsAt_one (cellH_at c0), fun hf => absurd hf (by decide), fun _ => ⟨rfl, rfl⟩⟩, ?_⟩
  refine ⟨fun vs q => vs = [.bool false] ∧ q = h0, ⟨false, ⟨_, cellsAt_one (cellH_at c0), fun hf => absurd hf (by decide), fun _ => ⟨_, cellsAt_one (cellH_at c0), rfl, by decide⟩⟩, fun hf => absurd hf (by decide), fun _ =>
    ⟨false, ⟨_, cellsAt_one (cellH_at c0), fun hf => absurd hf (by decide), fun _ => ⟨rfl, rfl⟩⟩, fun hf => absurd hf (by decide), fun _ =>
    ⟨false, ⟨_, cellsAt_one (cellH_at c0), fun hf => absurd hf (by decide), fun _ => ⟨rfl, rfl⟩⟩, fun hf => absurd hf (by decide), fun _ =>
    ⟨false, ⟨_, cellsAt_one (cellH_at c0), fun hf => absurd hf (by decide), fun _ => ⟨rfl, rfl⟩⟩, rfl, rfl⟩⟩⟩⟩, ?_⟩
  rintro xb h1 ⟨hvs, rfl⟩
  cases hvs
  have D1 := D.ext x0
  refine ⟨fun hf => absurd hf (by decide), fun _ => ⟨_, cellsAt_one (cellH_at c0), (table_of_c D1 k).mono ?_⟩⟩
  rintro en h2 ⟨rfl, x2⟩
  have D2 := D1.ext x2
  have c2 := x2.at c0
  have x02 := x0.trans x2
  refine ⟨_, rfl, false, eqv_ptr (e := 80) (by kernel_rfl) _, (fun hf => by cases hf), fun _ => ?_⟩
  have ce : cellsAt h2 h.size (0 + 2) [sl mp 1 mc, vI (cond k (n + 1) 0), .string sOut, sl ab 1 ac] := ⟨cellH_at c2, cellH_at c2, cellH_at c2, cellH_at c2, trivial⟩
  refine ⟨true, ⟨_, cellsAt_one (cellH_at c2), fun _ => ⟨rfl, rfl⟩, fun hf => absurd hf (by decide)⟩, fun _ => ?_, fun hf => absurd hf (by decide)⟩
  refine ⟨X.t, 0, rfl, _, _, _, _, _, _, _, _, _, _, _, _, _, _, _, _, _, _, set_six D2.blk, _, cellsAt_one (cellH_at c2), _, _, _, _, _, _, _, _, ce, (Right_c D2.S (a := false) ⟨ab, 0, ac, y, rfl, x02.cells ha⟩ (x02.cells hm) hn hv).mono ?_⟩
  rintro en h3 ⟨rfl, x3⟩
  exact ⟨_, rfl, rfl, x02.trans x3⟩

theorem rightD_c (D : SetAt h w X N gv gs) (k : Bool) {mp mc n : Nat} {v : B128} (hm : cellsAt h mp 0 (mcells k w n v)) (hn : n ≤ w) (hv : v &&& msk w n = v) :
    CallsH Tryz.prog 51 #[vP X.t, .agg #[vI 3, .string (nm k), sl mp 1 mc, vI (cond k (n + 1) 0), .string ⟨#[]⟩, nilS]] h (RetX (vZ 0) h) := by
  refine V51 _ _ _ _ _ _ _ _ _ _ _ h _ ?_
  rintro b0 h0 rfl hh0
  have x0 : Ext h h0 := by rw [hh0]; exact Ext.push _ _
  have c0 : h0[h.size]? = some (.cells #[vI 3, .string (nm k), sl mp 1 mc, vI (cond k (n + 1) 0), .string ⟨#[]⟩, nilS] 55) := by rw [hh0]; exact push_last
  clear hh0
  refine ⟨true, ⟨_, cellsAt_one (cellH_at c0), fun _ => ⟨_, _, _, cellsAt_one (cellH_at c0), rfl, by decide⟩, fun hf => absurd hf (by decide)⟩, false, ⟨_, _, _, cellsAt_one (cellH_at c0), fun hf => absurd hf (by decide), fun _ => ⟨rfl, rfl⟩⟩, ?_⟩
  refine ⟨fun vs q => vs = [.bool false] ∧ q = h0, ⟨false, ⟨_, cellsAt_one (cellH_at c0), fun hf => absurd hf (by decide), fun _ => ⟨_, cellsAt_one (cellH_at c0), rfl, by decide⟩⟩, fun hf => absurd hf (by decide), fun _ =>
    ⟨false, ⟨_, cellsAt_one (cellH_at c0), fun _ => ⟨rfl, rfl⟩, fun hf => absurd hf (by decide)⟩, fun hf => absurd hf (by decide), fun _ =>
    ⟨false, ⟨_, cellsAt_one (cellH_at c0), fun hf => absurd hf (by decide), fun _ => ⟨rfl, rfl⟩⟩, fun hf => absurd hf (by decide), fun _ =>
    ⟨false, ⟨_, cellsAt_one (cellH_at c0), fun hf => absurd hf (by decide), fun _ => ⟨rfl, rfl⟩⟩, rfl, rfl⟩⟩⟩⟩, ?_⟩
  rintro xb h1 ⟨hvs, rfl⟩
  cases hvs
  have D1 := D.ext x0
  refine ⟨fun hf => absurd hf (by decide), fun _ => ⟨_, cellsAt_one (cellH_at c0), (table_of_c D1 k).mono ?_⟩⟩
  rintro en h2 ⟨rfl, x2⟩
  have D2 := D1.ext x2
  have c2 := x2.at c0
  have x02 := x0.trans x2
  refine ⟨_, rfl, false, eqv_ptr (e := 80) (by kernel_rfl) _, (fun hf => by cases hf), fun _ => ?_⟩
  have ce : cellsAt h2 h.size (0 + 2) [sl mp 1 mc, vI (cond k (n + 1) 0), .string ⟨#[]⟩, nilS] := ⟨cellH_at c2, cellH_at c2, cellH_at c2, cellH_at c2, trivial⟩
  refine ⟨false, ⟨_, cellsAt_one (cellH_at c2), fun hf => absurd hf (by decide), fun _ => ⟨_, cellsAt_one (cellH_at c2), rfl, by decide⟩⟩, fun hf => absurd hf (by decide), fun _ => ?_⟩
  refine ⟨_, cellsAt_one (cellH_at c2), fun _ => ?_, fun hf => absurd hf (by decide)⟩
  refine ⟨X.t, 0, rfl, _, _, _, _, _, _, _, _, _, _, _, _, _, _, _, _, _, _, set_six D2.blk, _, cellsAt_one (cellH_at c2), _, _, _, _, _, _, _, _, ce, (Who_c D2.S (x02.cells hm) hn hv).mono ?_⟩
  rintro en h3 ⟨rfl, x3⟩
  exact ⟨_, rfl, rfl, x02.trans x3⟩

theorem LSt.foot_tag {k : Bool} {bl N : Nat} {L : LB} {gv : Value} {gs : List Gp} (T : LSt h k w bl L N gv gs) {q : Nat} (hq : Foot bl gv gs q) {t : TypeId} (ht : Tag h q t) (hn : t ≠ 144 ∧ t ≠ 239 ∧ t ≠ 246 ∧ t ≠ 53) : False := by
  rcases hq with rfl | hq | ⟨g, hg, rfl | rfl | ⟨p, hp, rfl⟩⟩
  · exact ht.ne T.tagL hn.1 rfl
  · exact ht.ne (T.tagA hq) hn.2.1 rfl
  · exact ht.ne (T.gp g hg).tag hn.2.2.1 rfl
  · exact ht.neM (T.gp g hg).isM rfl
  · exact ht.ne ((T.gp g hg).row p hp).2.tag hn.2.2.2 rfl

structure Sam (Z : Nat → Prop) (h h' : Hp) : Prop where
  size : h.size ≤ h'.size
  si : KeepsSI h h'
  loc : ∀ q, q < h.size → ¬ Z q → h'[q]? = h[q]?
theorem Sam.of_ext {Z : Nat → Prop} (x : Ext h h') : Sam Z h h' :=
  ⟨x.size, fun q ⟨v, hv, _⟩ => x.old q (cellH_lt hv), fun q hq _ => x.old q hq⟩
theorem KeepsSI.trans {h1 : Hp} (a : KeepsSI h h1) (b : KeepsSI h1 h') : KeepsSI h h' := fun q hq => by
  have e := a q hq
  obtain ⟨v, hv, hs⟩ := hq
  exact (b q ⟨v, (cellsAt_congr (vs := [v]) e (cellsAt_one hv)).1, hs⟩).trans e
theorem Sam.trans {Z Z' : Nat → Prop} {h1 : Hp} (a : Sam Z h h1) (b : Sam Z' h1 h') (hz : ∀ q, Z' q → Z q ∨ h.size ≤ q) : Sam Z h h' :=
  ⟨Nat.le_trans a.size b.size, a.si.trans b.si, fun q hq hn => (b.loc q (Nat.lt_of_lt_of_le hq a.size) (fun hf => (hz q hf).elim hn (fun e => by omega))).trans (a.loc q hq hn)⟩

def upd {α : Type} (f : Bool → α) (k : Bool) (x : α) : Bool → α := fun j => if j = k then x else f j
theorem upd_at {α : Type} (f : Bool → α) (k : Bool) (x : α) : upd f k x k = x := by simp [upd]
theorem upd_ne {α : Type} (f : Bool → α) {k j : Bool} (x : α) (h : j ≠ k) : upd f k x j = f j := by simp [upd, h]

theorem SetAt.step (D : SetAt h w X N gv gs) (k : Bool) {Z : Nat → Prop} (hb : ∀ k q, Foot (X.o k).bl (gv k) (gs k) q → Z q) {N' : Nat} {gv' : Value} {gs' : List Gp} (T' : LSt h' k w (X.o k).bl (X.o k).L N' gv' gs') (G' : Good k gs' N' ∧ Srt gs' 0 gs'.length)
    (F : Fr (Foot (X.o k).bl (gv k) (gs k)) h h') (f' : ∀ q, Foot (X.o k).bl gv' gs' q → Foot (X.o k).bl (gv k) (gs k) q ∨ h.size ≤ q) :
    SetAt h' w X (upd N k N') (upd gv k gv') (upd gs k gs') ∧ Sam Z h h' ∧ ∀ j q, Foot (X.o j).bl (upd gv k gv' j) (upd gs k gs' j) q → Z q ∨ h.size ≤ q := by
  have T := D.lst k
  have K : KeepsSI h h' := T.fr_si F
  have hdis : ∀ j, j ≠ k → ∀ q, Foot (X.o j).bl (gv j) (gs j) q → ¬ Foot (X.o k).bl (gv k) (gs k) q := by
    intro j hj q h1 h2
    cases j <;> cases k
    · exact hj rfl
    · exact D.dis q h1 h2
    · exact D.dis q h2 h1
    · exact hj rfl
  have key : ∀ j, LSt h' j w (X.o j).bl (X.o j).L (upd N k N' j) (upd gv k gv' j) (upd gs k gs' j) := fun j => by
    by_cases hj : j = k
    · subst hj; rw [upd_at, upd_at, upd_at]; exact T'
    · rw [upd_ne _ _ hj, upd_ne _ _ hj, upd_ne _ _ hj]
      exact (D.lst j).frame K fun q hq => F.old q ((D.lst j).foot_lt hq) (hdis j hj q hq)
  have hfoot : ∀ j, j ≠ k → ∀ q, Foot (X.o k).bl gv' gs' q → ¬ Foot (X.o j).bl (gv j) (gs j) q := fun j hj q h1 h2 => by
    rcases f' q h1 with h3 | h3
    · exact hdis j hj q h2 h3
    · have := (D.lst j).foot_lt h2; omega
  refine ⟨⟨?_, K.sch D.S, ?_, fun j => K.one (D.one j), key, fun j => ?_, fun q h1 h2 => ?_⟩, ⟨F.size, K, fun q hq hn => F.old q hq fun hf => hn (hb k q hf)⟩, fun j q hq => ?_⟩
  · exact (F.old _ (Array.getElem?_eq_some_iff.1 D.blk).1 fun hf => T.foot_tag hf ⟨_, D.blk⟩ (by decide)).trans D.blk
  · refine D.arr.keep fun q hq => ?_
    have ht : Tag h q 74 := D.arr.blk hq
    exact F.old q (D.arr.lt hq).2 fun hf => T.foot_tag hf ht (by decide)
  · by_cases hj : j = k
    · subst hj; rw [upd_at, upd_at]; exact G'
    · rw [upd_ne _ _ hj, upd_ne _ _ hj]; exact D.good j
  · cases k
    · rw [upd_at, upd_at] at h1
      rw [upd_ne _ _ (by decide), upd_ne _ _ (by decide)] at h2
      exact hfoot true (by decide) q h1 h2
    · rw [upd_at, upd_at] at h2
      rw [upd_ne _ _ (by decide), upd_ne _ _ (by decide)] at h1
      exact hfoot false (by decide) q h2 h1
  · by_cases hj : j = k
    · subst hj
      rw [upd_at, upd_at] at hq
      exact (f' q hq).imp (hb j q) id
    · rw [upd_ne _ _ hj, upd_ne _ _ hj] at hq
      exact .inl (hb j q hq)
end
end Go.Vc
