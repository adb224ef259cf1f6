import Derived.Test.YtlidgpojlgochaaGreatDoorS9ZCkV
import Derived.Test.YtlidgpojlgochaaGreatDoorS9ZCkP
set_option maxRecDepth 10000
/- A disk and the document's, side by side: what is found, and what lies there. -/
namespace Go.Vc
open Go Go.Proofs Go.MapKept

theorem newest_off {σ : DS} (hg : σ.gone = true) : (newestF σ).2 = ([], 40) := by
  have ha : σ.asked 0 = 40 := by unfold DS.asked; rw [if_pos hg]
  have hrd : σ.read 0 = (σ, ByteArray.empty, 40) := by unfold DS.read; rw [ha, if_neg (by decide)]
  have hgt : getF σ 0 = (Frm.no, 40) := by unfold getF; rw [hrd, if_pos (by show (40 : Int) ≠ 0; decide)]
  have ht : takeF σ 0 = (Tk.no, false, 40) := by unfold takeF; rw [hgt, if_pos rfl]
  have ht' : takeF (stN σ 0).1 0 = (Tk.no, false, 40) := ht
  unfold newestF
  rw [ht', if_pos (by show (40 : Int) ≠ 0; decide)]

theorem Rds.newestX {σ τ : DS} (x : Rds σ τ) : (newestF τ).2 = (newestF σ).2 := by
  cases hg : σ.gone with
  | false => exact x.newest hg
  | true => rw [newest_off hg, newest_off (x.gone.trans hg)]
theorem Rds.findX {σ τ : DS} (x : Rds σ τ) : (findF τ).2 = (findF σ).2 := by
  cases hg : σ.gone with
  | false => exact x.find hg
  | true =>
    unfold findF
    rw [x.newestX, newest_off hg, if_pos (by show (40 : Int) ≠ 0; decide), if_pos (by show (40 : Int) ≠ 0; decide)]
theorem Rds.symm {σ τ : DS} (x : Rds σ τ) : Rds τ σ := by
  obtain ⟨r, rfl⟩ := x
  exact ⟨σ.reads, rfl⟩

theorem row_set {rows : List (List Value)} {z i : Nat} {r : List Value} (hz : 0 < z) (h : ∀ r ∈ rows, r.length = z) (hr : r.length = z) (hi : i < rows.length) : layC rows.flatten.toArray (i * z) r = ((rows.set i r).flatten).toArray := by
  have h' : ∀ s ∈ rows.set i r, s.length = z := by
    intro s hs
    rcases List.mem_or_eq_of_mem_set hs with h1 | h1
    · exact h s h1
    · rw [h1]; exact hr
  apply Array.ext_getElem?
  intro k
  by_cases hk : k < rows.length * z
  · rw [layC_get (by simp only [List.size_toArray]; rw [flatten_len h]; exact hk)]
    have hkz : k / z < rows.length := Nat.div_lt_of_lt_mul (by rw [Nat.mul_comm]; exact hk)
    have hm : k % z < z := Nat.mod_lt _ hz
    have e : k / z * z + k % z = k := Nat.div_add_mod' k z
    have f1 := flatten_at h hkz hm
    have f2 := flatten_at h' (i := k / z) (j := k % z) (by simpa using hkz) hm
    rw [e] at f1 f2
    simp only [List.getElem?_toArray]
    rw [f1, f2]
    by_cases hq : k / z = i
    · have hle : i * z ≤ k := by rw [← hq]; omega
      have hlt : k < i * z + r.length := by rw [← hq, hr]; omega
      rw [if_pos ⟨hle, hlt⟩]
      have e2 : k - i * z = k % z := by rw [← hq]; omega
      rw [e2]
      congr 1
      simp [hq]
    · rw [if_neg]
      · congr 1
        rw [List.getElem_set_ne (fun e => hq e.symm)]
      · rintro ⟨h1, h2⟩
        rw [hr] at h2
        exact hq (Nat.div_eq_of_lt_le h1 (by rw [Nat.succ_mul]; exact h2))
  · rw [Array.getElem?_eq_none (by rw [layC_size]; simp only [List.size_toArray]; rw [flatten_len h]; omega), Array.getElem?_eq_none (by simp only [List.size_toArray]; rw [flatten_len h', List.length_set]; omega)]

theorem zero_next {L : List Hd} {i : Nat} (hi : i < L.length) : ((List.replicate i Hd.no ++ L.drop i).map hdV).set i (hdV Hd.no) = (List.replicate (i + 1) Hd.no ++ L.drop (i + 1)).map hdV := by
  rw [← List.map_set, List.drop_eq_getElem_cons hi, List.set_append_right _ _ (by rw [List.length_replicate]; exact Nat.le_refl _), List.length_replicate, Nat.sub_self, List.set_cons_zero, List.replicate_succ', List.append_assoc]
  rfl

/-- A disk, and the document's, with the same in them. -/
structure Two (B1 B2 : Nat → Prop) (h : Hp) (d q : Nat) (σ τ : DS) : Prop where
  a : DiskAt dI h B1 d σ
  b : RefAt rI h B2 q τ
  r : Rds σ τ
  dis : ∀ x, B1 x → ¬ B2 x
  n0 : ¬ B1 0 ∧ ¬ B2 0

section
variable {B1 B2 : Nat → Prop} {h g g' : Hp} {d q : Nat} {σ τ σ' τ' : DS}

def Or2 (B1 B2 : Nat → Prop) : Nat → Prop := fun b => B1 b ∨ B2 b
theorem Same.left (y : Same B1 g g') : Same (Or2 B1 B2) g g' := ⟨y.size, fun b hb hn => y.old b hb fun h => hn (.inl h)⟩
theorem Same.right (y : Same B2 g g') : Same (Or2 B1 B2) g g' := ⟨y.size, fun b hb hn => y.old b hb fun h => hn (.inr h)⟩
theorem Two.ext (t : Two B1 B2 g d q σ τ) (x : Ext g g') : Two B1 B2 g' d q σ τ := ⟨t.a.ext x, t.b.ext x, t.r, t.dis, t.n0⟩
theorem Two.goA (t : Two B1 B2 g d q σ τ) (y : Same B1 g g') (D : DiskAt dI g' B1 d σ') (r : Rds σ σ') : Two B1 B2 g' d q σ' τ :=
  ⟨D, t.b.other y fun x h1 h2 => t.dis x h2 h1, r.symm.trans t.r, t.dis, t.n0⟩
theorem Two.goB (t : Two B1 B2 g d q σ τ) (y : Same B2 g g') (D : RefAt rI g' B2 q τ') (r : Rds τ τ') : Two B1 B2 g' d q σ τ' :=
  ⟨t.a.other y fun x h1 h2 => t.dis x h1 h2, D, t.r.trans r, t.dis, t.n0⟩
theorem Two.grown (t : Two B1 B2 g d q σ τ) {row : Option Nat} (gr : Grown g g' row) (hrow : ∀ b, row = some b → ¬ Or2 B1 B2 b) : Two B1 B2 g' d q σ τ :=
  ⟨t.a.grown gr fun b hb h => hrow b hb (.inl h), RefAt.grown t.b gr fun b hb h => hrow b hb (.inr h), t.r, t.dis, t.n0⟩
theorem Two.lt (t : Two B1 B2 g d q σ τ) : ∀ b, Or2 B1 B2 b → b < g.size := fun b h => h.elim (t.a.lt b) (t.b.lt b)
theorem Two.halves (t : Two B1 B2 h d q σ τ) (hh : Halves h) (y : Same (Or2 B1 B2) h g) : Halves g := hh.same y fun h => h.elim t.n0.1 t.n0.2

set_option maxHeartbeats 2000000 in
/-- turnoutlaw20.pair.finds -/
theorem finds_c (t : Two B1 B2 h d q σ τ) (hh : Halves h) : CallsH Tryz.prog 12 #[.agg #[vP d, vP q]] h fun e h' => ∃ σ' τ', Rds σ σ' ∧ Two B1 B2 h' d q σ' τ' ∧ Same (Or2 B1 B2) h h' ∧ e = .returned (.bool true) := by
  have nB : ∀ {x : Nat}, h.size ≤ x → ¬ Or2 B1 B2 x := fun hx hb => by have := t.lt _ hb; omega
  refine V12 _ _ h _ ?_
  intro b g1 hb e1
  have x1 : Ext h g1 := by rw [e1]; exact Ext.push _ _
  have c1 : g1[b]? = some (.cells #[vP d, vP q] 34) := by rw [e1, hb]; exact push_last
  clear e1
  have t1 := t.ext x1
  have y1 : Same (Or2 B1 B2) h g1 := x1.same _
  have keep : ∀ {ga gb : Hp} {x : Nat} {o : Obj}, h.size ≤ x → Same (Or2 B1 B2) ga gb → ga[x]? = some o → gb[x]? = some o := fun hx y c => (y.old _ (Array.getElem?_eq_some_iff.1 c).1 (nB hx)).trans c
  have hbh : h.size ≤ b := by omega
  refine ⟨_, cellsAt_one (cellH_at c1), (find_c t1.a (hh.ext x1) t1.n0.1).mono ?_⟩
  rintro e g2 ⟨y2, D2, rfl⟩
  have t2 := t1.goA y2 D2 (find_rds σ)
  have c2 := keep hbh y2.left c1
  obtain ⟨Q, hQ⟩ : ∃ Q, Q = (findF σ).2 := ⟨_, rfl⟩
  rw [← hQ]
  refine ⟨_, _, _, _, _, _, _, rfl, hd_new Q.1 fun b1 g3 hb1 x3 k1 => ?_⟩
  have y13 : Same (Or2 B1 B2) g1 g3 := y2.left.trans (x3.same _) fun _ h _ => h
  have y3 := y1.trans y13 fun _ h _ => h
  have t3 := t2.ext x3
  have c3 := keep hbh (x3.same _) c2
  have s1 := y1.size
  have s13 := y13.size
  have hb1h : h.size ≤ b1 := by have := y2.size; omega
  refine ⟨_, cellsAt_one (cellH_at c3), (rFind_c t3.b).mono ?_⟩
  rintro e g4 ⟨y4, D4, rfl⟩
  have hQ2 : (findF τ).2 = Q := by rw [t.r.findX, hQ]
  rw [hQ2]
  have t4 := t3.goB y4 D4 (find_rds τ)
  have c4 := keep hbh y4.right c3
  have k14 := keep hb1h y4.right k1
  refine ⟨_, _, _, _, _, _, _, rfl, hd_new Q.1 fun b2 g5 hb2 x5 k2 => ?_⟩
  have y35 : Same (Or2 B1 B2) g3 g5 := y4.right.trans (x5.same _) fun _ h _ => h
  have y5 := y3.trans y35 fun _ h _ => h
  have t5 := t4.ext x5
  have c5 := keep hbh (x5.same _) c4
  have k15 := keep hb1h (x5.same _) k14
  have s35 := y35.size
  have s5 := y5.size
  have hb2h : h.size ≤ b2 := by have := y4.size; omega
  -- Heads, twice
  refine ⟨_, cellsAt_one (cellH_at c5), (heads_c t5.a (t.halves hh y5) t.n0.1).mono ?_⟩
  rintro e g6 ⟨y6, D6, lp, lc, rfl, ol⟩
  obtain ⟨L, hL⟩ : ∃ L, L = (newestF σ).2.1.map (·.h) := ⟨_, rfl⟩
  obtain ⟨code, hcode⟩ : ∃ code, code = (newestF σ).2.2 := ⟨_, rfl⟩
  have hn6 : (newestF (findF σ).1).2 = (newestF σ).2 := (find_rds σ).newestX
  have hlen : (newestF σ).2.1.length = L.length := by rw [hL]; simp
  rw [hn6, ← hcode, hlen]
  rw [hn6, ← hL, hlen] at ol
  have t6 := t5.goA y6 D6 (newest_rds _)
  have c6 := keep hbh y6.left c5
  have y56 : Same (Or2 B1 B2) h g6 := y5.trans y6.left fun _ h _ => h
  refine ⟨_, _, _, _, rfl, _, cellsAt_one (cellH_at c6), (heads_c t6.a (t.halves hh y56) t.n0.1).mono ?_⟩
  rintro e g7 ⟨y7, D7, mp, mc, rfl, om⟩
  have hn7 : (newestF (newestF (findF σ).1).1).2 = (newestF σ).2 := ((find_rds σ).trans (newest_rds _)).newestX
  rw [hn7, ← hcode, hlen]
  rw [hn7, ← hL, hlen] at om
  have t7 := t6.goA y7 D7 (newest_rds _)
  have c7 := keep hbh y7.left c6
  have y67 : Same (Or2 B1 B2) h g7 := y56.trans y7.left fun _ h _ => h
  have s6 := y56.size
  have s7 := y7.size
  have s56 := y6.size
  have ol7 : Own g7 g5.size 39 5 (.slice lp L.length lc) L.length (L.map hdV).flatten := ol.keep fun x hx => y7.old x (ol.lt hx).2 fun hb => nB (by have := (ol.lt hx).1; omega) (.inl hb)
  refine ⟨_, _, _, _, rfl, _, cellsAt_one (cellH_at c7), (rHeads_c t7.b).mono ?_⟩
  rintro e g8 ⟨y8, D8, wp, wc, rfl, ow⟩
  have hn8 : (newestF (findF τ).1).2 = (newestF σ).2 := (t.r.trans (find_rds τ)).newestX
  rw [hn8, ← hcode, hlen]
  rw [hn8, ← hL, hlen] at ow
  have t8 := t7.goB y8 D8 (newest_rds _)
  have y78 : Same (Or2 B1 B2) h g8 := y67.trans y8.right fun _ h _ => h
  have s8 := y8.size
  have k16 := keep hb1h ((y6.left.trans y7.left fun _ h _ => h).trans y8.right fun _ h _ => h) k15
  have k26 := keep hb2h ((y6.left.trans y7.left fun _ h _ => h).trans y8.right fun _ h _ => h) k2
  have ol8 : Own g8 g5.size 39 5 (.slice lp L.length lc) L.length (L.map hdV).flatten := ol7.keep fun x hx => y8.old x (ol7.lt hx).2 fun hb => nB (by have := (ol7.lt hx).1; omega) (.inr hb)
  have om8 : Own g8 g6.size 39 5 (.slice mp L.length mc) L.length (L.map hdV).flatten := om.keep fun x hx => y8.old x (om.lt hx).2 fun hb => nB (by have := (om.lt hx).1; omega) (.inr hb)
  have hlb : ∀ x, (Value.slice lp L.length lc).ownBlock = some x → g5.size ≤ x ∧ x < g6.size := fun x hx => ol.lt hx
  have hmb : ∀ x, (Value.slice mp L.length mc).ownBlock = some x → g6.size ≤ x ∧ x < g8.size := fun x hx => om8.lt hx
  have hwb : ∀ x, (Value.slice wp L.length wc).ownBlock = some x → g7.size ≤ x ∧ x < g8.size := fun x hx => ow.lt hx
  have hlen5 : ∀ (M : List Hd), ∀ r ∈ M.map hdV, r.length = 5 := fun M r hr => by obtain ⟨x, _, rfl⟩ := List.mem_map.1 hr; rfl
  have hL2 : L.length ≤ 2 := by
    rw [← hlen]
    unfold newestF
    split
    · exact Nat.zero_le _
    · split
      · exact Nat.zero_le _
      · have := stN_length σ 2
        show (sortT (stN σ 2).2).length ≤ 2
        unfold sortT
        split
        · split <;> exact Nat.le_refl _
        · exact this
  refine ⟨_, _, _, _, rfl, fun l hq => hq = g8, ⟨false, ⟨_, _, _, _, _, cellsAt_all (vs := hdV Q.1) k16, _, _, _, _, _, cellsAt_all (vs := hdV Q.1) k26, _, eqv_hd Q.1 Q.1, fun hf => (by simp at hf), fun _ => ⟨fun hf => (by simp at hf), fun _ => ⟨fun hf => (by simp at hf), fun _ => ⟨fun hf => (by simp at hf), fun _ => ⟨fun hf => (by simp at hf), fun _ => ⟨fun hf => (by simp at hf), fun _ => ⟨rfl, by simp⟩⟩⟩⟩⟩⟩⟩, fun hf => (by cases hf), fun _ => rfl⟩, ?_⟩
  rintro g8' rfl
  -- what holds while the first list is written over
  have rest : ∀ {ga gb : Hp} {row : Option Nat}, Grown ga gb row → (∀ x, row = some x → h.size ≤ x ∧ (x < g6.size ∨ g8'.size ≤ x)) →
      (∃ σ' τ', Rds σ σ' ∧ Two B1 B2 ga d q σ' τ') ∧ Same (Or2 B1 B2) h ga ∧ Own ga g6.size 39 5 (.slice mp L.length mc) L.length (L.map hdV).flatten ∧ Own ga g7.size 39 5 (.slice wp L.length wc) L.length (L.map hdV).flatten →
      (∃ σ' τ', Rds σ σ' ∧ Two B1 B2 gb d q σ' τ') ∧ Same (Or2 B1 B2) h gb ∧ Own gb g6.size 39 5 (.slice mp L.length mc) L.length (L.map hdV).flatten ∧ Own gb g7.size 39 5 (.slice wp L.length wc) L.length (L.map hdV).flatten := by
    rintro ga gb row gr hrow ⟨⟨σ', τ', r, tt⟩, y, m, w⟩
    refine ⟨⟨σ', τ', r, tt.grown gr fun x hx => nB (hrow x hx).1⟩, y.grown gr fun x hx => (hrow x hx).1, m.keep fun x hx => gr.block x (m.lt hx).2 fun e => ?_, w.keep fun x hx => gr.block x (w.lt hx).2 fun e => ?_⟩
    · have := hrow x e.symm; have := hmb x hx; omega
    · have := hrow x e.symm; have := hwb x hx; omega
  have start : (∃ σ' τ', Rds σ σ' ∧ Two B1 B2 g8' d q σ' τ') ∧ Same (Or2 B1 B2) h g8' ∧ Own g8' g6.size 39 5 (.slice mp L.length mc) L.length (L.map hdV).flatten ∧ Own g8' g7.size 39 5 (.slice wp L.length wc) L.length (L.map hdV).flatten :=
    ⟨⟨_, _, ((find_rds σ).trans (newest_rds _)).trans (newest_rds _), t8⟩, y78, om8, ow⟩
  refine ⟨fun l hr => ∃ i : Nat, l = [vI i] ∧ i ≤ L.length ∧ ((∃ σ' τ', Rds σ σ' ∧ Two B1 B2 hr d q σ' τ') ∧ Same (Or2 B1 B2) h hr ∧ Own hr g6.size 39 5 (.slice mp L.length mc) L.length (L.map hdV).flatten ∧ Own hr g7.size 39 5 (.slice wp L.length wc) L.length (L.map hdV).flatten) ∧
      Own hr g5.size 39 5 (.slice lp L.length lc) L.length ((List.replicate i Hd.no ++ L.drop i).map hdV).flatten ∧ g8'.size ≤ hr.size, fun l _ => (L.length - numAt l 0).toNat, ⟨0, rfl, Nat.zero_le _, start, by simpa using ol8, Nat.le_refl _⟩, ?_⟩
  rintro x hr ⟨i, hl, hi, st, o, hsz0⟩
  cases hl
  refine ⟨fun hlt => ?_, fun hlt => ?_⟩
  · have hlt : i < L.length := by have := of_decide_eq_true hlt; omega
    have hrl : ((List.replicate i Hd.no ++ L.drop i).map hdV).length = L.length := by simp; omega
    have sgl : SegS hr lp L.length 5 ((List.replicate i Hd.no ++ L.drop i).map hdV) := o.segS (hlen5 _) hrl
    have sgw : SegS hr wp L.length 5 (L.map hdV) := st.2.2.2.segS (hlen5 _) (by simp)
    obtain ⟨bl', ol', p1, p2, p3, p4⟩ := sgl.at (i := i) (by rw [hrl]; exact hlt)
    obtain ⟨bw', ow', q1, q2, q3, q4⟩ := sgw.at (i := i) (by simpa using hlt)
    have e1 : ((List.replicate i Hd.no ++ L.drop i).map hdV)[i]'(by rw [hrl]; exact hlt) = hdV L[i] := by
      rw [List.getElem_map]
      congr 1
      rw [List.getElem_append_right (by simp)]
      simp
    have e2 : (L.map hdV)[i]'(by simpa using hlt) = hdV L[i] := by rw [List.getElem_map]
    rw [e1] at p4
    rw [e2] at q4
    refine ⟨bl', ol', p1, p2, p3, _, _, _, _, _, p4, bw', ow', q1, q2, q3, _, _, _, _, _, q4, _, eqv_hd L[i] L[i], fun hf => (by simp at hf), fun _ => ?_⟩
    refine o.storeS (i := i) (vs := hdV Hd.no) hlt rfl (by simp [hdV, Value.oneCell']) fun g9 o9 gr9 _ => ?_
    rw [row_set (by decide) (hlen5 _) rfl (by rw [hrl]; exact hlt), zero_next hlt] at o9
    exact ⟨_, incI (by omega), ⟨i + 1, rfl, hlt, rest gr9 (fun x hx => ⟨by have := (hlb x hx).1; omega, .inl (hlb x hx).2⟩) st, o9, by have := gr9.size; omega⟩, by simp only [numAt]; omega⟩
  have o0 := o
  refine ⟨fun l hr => ∃ (j : Nat) (p : Option Addr) (c : Nat) (xs : List Value), l = [.slice p (L.length + j) c, vI j] ∧ j ≤ 4 ∧ ((∃ σ' τ', Rds σ σ' ∧ Two B1 B2 hr d q σ' τ') ∧ Same (Or2 B1 B2) h hr ∧ Own hr g6.size 39 5 (.slice mp L.length mc) L.length (L.map hdV).flatten ∧ Own hr g7.size 39 5 (.slice wp L.length wc) L.length (L.map hdV).flatten) ∧
      Own hr g5.size 39 5 (.slice p (L.length + j) c) (L.length + j) xs ∧ g8'.size ≤ hr.size ∧ (∀ x, (Value.slice p (L.length + j) c).ownBlock = some x → g5.size ≤ x ∧ (x < g6.size ∨ g8'.size ≤ x)), fun l _ => (4 - numAt l 1).toNat, ⟨0, lp, lc, _, rfl, Nat.zero_le _, st, o0, hsz0, fun x hx => ⟨(hlb x hx).1, .inl (hlb x hx).2⟩⟩, ?_⟩
  rintro p n c jx hs ⟨j, p', c', xs, hl, hj, st2, o2, hsz, hpb⟩
  have hl' := hl
  simp only [List.cons.injEq, Value.slice.injEq, Value.int.injEq, and_true, true_and] at hl'
  obtain ⟨⟨rfl, hn, rfl⟩, rfl⟩ := hl'
  subst hn
  refine ⟨fun hlt2 => ?_, fun hlt2 => ?_⟩
  · have hlt2 : j < 4 := by have := of_decide_eq_true hlt2; omega
    refine semH_pushS rowHd (by decide) o2 (r := hdV Hd.no) rfl rfl (by decide) (by simp [hdV, Value.oneCell']) (by omega) (by simp only [maxLen]; omega) (by omega) fun p4 c4 g9 o9 gr9 _ b9 => ?_
    refine ⟨_, incI (by omega), ⟨j + 1, p4, c4, _, rfl, hlt2, rest gr9 (fun x hx => ⟨by have := (hpb x hx).1; omega, (hpb x hx).2⟩) st2, o9, by have := gr9.size; omega, fun x hx => ?_⟩, by simp only [numAt]; omega⟩
    rcases b9 with e | ⟨b', e, hge⟩
    · have hx : (Value.slice p (L.length + j) c).ownBlock = some x := by rw [← e]; exact hx
      exact hpb x hx
    · have hx : some b' = some x := by rw [← e]; exact hx
      cases hx
      exact ⟨by omega, .inr (by omega)⟩
  refine ⟨fun l hq => ∃ i : Nat, l = [vI i] ∧ i ≤ L.length ∧ hq = hs, fun l _ => (L.length - numAt l 0).toNat, ⟨0, rfl, Nat.zero_le _, rfl⟩, ?_⟩
  rintro ix hq ⟨i2, hl, hi2, rfl⟩
  cases hl
  refine ⟨fun hlt3 => ?_, fun _ => ?_⟩
  · have hlt3 : i2 < L.length := by have := of_decide_eq_true hlt3; omega
    have sgm : SegS hq mp L.length 5 (L.map hdV) := st2.2.2.1.segS (hlen5 _) (by simp)
    have sgw : SegS hq wp L.length 5 (L.map hdV) := st2.2.2.2.segS (hlen5 _) (by simp)
    obtain ⟨bl', ol', p1, p2, p3, p4⟩ := sgm.at (i := i2) (by simpa using hlt3)
    obtain ⟨bw', ow', q1, q2, q3, q4⟩ := sgw.at (i := i2) (by simpa using hlt3)
    rw [List.getElem_map] at p4 q4
    exact ⟨bl', ol', p1, p2, p3, _, _, _, _, _, p4, bw', ow', q1, q2, q3, _, _, _, _, _, q4, _, eqv_hd L[i2] L[i2], fun hf => (by simp at hf), fun _ => ⟨_, incI (by omega), ⟨i2 + 1, rfl, hlt3, rfl⟩, by simp only [numAt]; omega⟩⟩
  · obtain ⟨⟨σ', τ', r, tt⟩, y, _, _⟩ := st2
    exact ⟨σ', τ', r, tt, y, rfl⟩

end

end Go.Vc

/- CkptFinds. -/
namespace Go.Vc
open Go Go.Proofs Go.MapKept

theorem uBoolP : Tryz.prog.underlying 4 = some .bool := by kernel_rfl
theorem zerosPair : zeros Tryz.prog 34 = #[.pointer none, .pointer none] := by kernel_rfl
theorem infoPair : ∃ i z, Tryz.prog.info? 34 = some i ∧ i.zero = some z := by
  have : ((Tryz.prog.info? 34).bind (·.zero)).isSome = true := by kernel_rfl
  obtain ⟨z, hz⟩ := Option.isSome_iff_exists.1 this
  obtain ⟨i, hi, hz⟩ := Option.bind_eq_some_iff.1 hz
  exact ⟨i, z, hi, hz⟩

section
variable {B1 B2 : Nat → Prop} {h g g' : Hp} {d q : Nat} {σ τ σ' τ' : DS}

/-- turnoutlaw20.pair.lies -/
theorem lies_c (t : Two B1 B2 h d q σ τ) (hl : σ.pend.length ≤ 8796093022208) : CallsH Tryz.prog 9 #[.agg #[vP d, vP q]] h fun e h' => Ext h h' ∧ e = .returned (.bool true) := by
  have hp : τ.pend = σ.pend := t.r.pend
  have hw : τ.writes = σ.writes ∧ τ.flushes = σ.flushes ∧ τ.image = σ.image ∧ τ.gone = σ.gone := by obtain ⟨r, hr⟩ := t.r; rw [hr]; exact ⟨rfl, rfl, rfl, rfl⟩
  refine V9 _ _ h _ ?_
  intro b g1 hb e1
  have x1 : Ext h g1 := by rw [e1]; exact Ext.push _ _
  have c1 : g1[b]? = some (.cells #[vP d, vP q] 34) := by rw [e1, hb]; exact push_last
  clear e1
  have lb := (Array.getElem?_eq_some_iff.1 c1).1
  have at_ : ∀ {gq : Hp}, Ext g1 gq → gq[b]? = some (.cells #[vP d, vP q] 34) := fun x => (x.old b lb).trans c1
  refine ⟨_, cellsAt_one (cellH_at c1), (pending_c (t.ext x1).a hl).mono ?_⟩
  rintro e g2 ⟨x2, p1, k1, rfl, o1⟩
  refine ⟨_, _, _, rfl, _, cellsAt_one (cellH_at (at_ x2)), (rPending_c (t.ext (x1.trans x2)).b (by rw [hp]; exact hl)).mono ?_⟩
  rintro e g3 ⟨x3, p2, k2, rfl, o2⟩
  rw [hp] at o2 ⊢
  have x13 := x2.trans x3
  refine ⟨_, _, _, rfl, _, cellsAt_one (cellH_at (at_ x13)), (stats_c (t.ext (x1.trans x13)).a).mono ?_⟩
  rintro e g4 ⟨x4, rfl⟩
  refine ⟨_, _, _, rfl, st_new σ.reads σ.writes σ.flushes fun b1 g5 hb1 x5 k5 => ?_⟩
  have x15 := x13.trans (x4.trans x5)
  refine ⟨_, cellsAt_one (cellH_at (at_ x15)), (rStats_c (t.ext (x1.trans x15)).b).mono ?_⟩
  rintro e g6 ⟨x6, rfl⟩
  refine ⟨_, _, _, rfl, st_new τ.reads τ.writes τ.flushes fun b2 g7 hb2 x7 k7 => ?_⟩
  have x57 := x6.trans x7
  have x17 := x15.trans x57
  have k57 := (x57.old b1 (Array.getElem?_eq_some_iff.1 k5).1).trans k5
  have x37 : Ext g3 g7 := (x4.trans x5).trans x57
  have s1 : Seg g7 p1 σ.pend.length ((σ.pend.map (·.1)).map vI) := (o1.seg.ext x3).ext x37
  have s2 : Seg g7 p2 σ.pend.length ((σ.pend.map (·.1)).map vI) := o2.seg.ext x37
  refine ⟨fun l hq => Ext g7 hq, ⟨fun h' => h'[b]? = some (.cells #[vP d, vP q] 34), at_ x17, fun hf => (by simp at hf), fun _ => ⟨_, cellsAt_one (cellH_at (at_ x17)), (image_c (t.ext (x1.trans x17)).a).mono ?_⟩⟩, ?_⟩
  · rintro e g8 ⟨x8, rfl⟩
    have x18 := x17.trans x8
    refine ⟨_, rfl, at_ x18, _, fun h' c => cellsAt_one (cellH_at c), (rImage_c (t.ext (x1.trans x18)).b).mono ?_⟩
    rintro e g9 ⟨x9, rfl⟩
    have x19 := x18.trans x9
    have x79 := x8.trans x9
    have k59 := (x79.old b1 (Array.getElem?_eq_some_iff.1 k57).1).trans k57
    have k79 := (x79.old b2 (Array.getElem?_eq_some_iff.1 k7).1).trans k7
    rw [hw.2.2.1]
    refine ⟨_, rfl, at_ x19, fun hf => (by simp at hf), fun _ => ⟨σ.writes, cellsAt_one (cellH_at k59), τ.writes, cellsAt_one (cellH_at k79), fun hf => (by rw [hw.1] at hf; simp at hf), fun _ => ⟨σ.flushes, cellsAt_one (cellH_at k59), τ.flushes, cellsAt_one (cellH_at k79), fun hf => (by rw [hw.2.1] at hf; simp at hf), fun _ => ⟨_, cellsAt_one (cellH_at (at_ x19)), (off_c (t.ext (x1.trans x19)).a).mono ?_⟩⟩⟩⟩
    rintro e g10 ⟨rfl, rfl⟩
    refine ⟨_, rfl, at_ x19, _, fun h' c => cellsAt_one (cellH_at c), (rOff_c (t.ext (x1.trans x19)).b).mono ?_⟩
    rintro e g11 ⟨rfl, rfl⟩
    rw [hw.2.2.2]
    exact ⟨_, rfl, at_ x19, _, eqv_bool uBoolP _ _, fun hf => (by simp at hf), fun _ => x79⟩
  intro g12 x12
  refine ⟨fun l hr => ∃ i : Nat, l = [vI i] ∧ i ≤ σ.pend.length ∧ hr = g12, fun l _ => (σ.pend.length - numAt l 0).toNat, ⟨0, rfl, Nat.zero_le _, rfl⟩, ?_⟩
  rintro x hr ⟨i, hl', hi, rfl⟩
  cases hl'
  refine ⟨fun hlt => ?_, fun _ => ⟨(x1.trans x17).trans x12, rfl⟩⟩
  have hlt : i < σ.pend.length := by have := of_decide_eq_true hlt; omega
  obtain ⟨b3, o3, r1, r2⟩ := (s1.ext x12).at (i := i) (by simpa using hlt)
  obtain ⟨b4, o4, r3, r4⟩ := (s2.ext x12).at (i := i) (by simpa using hlt)
  rw [List.getElem_map] at r2 r4
  exact ⟨b3, o3, r1, by omega, by omega, _, r2, b4, o4, r3, by omega, by omega, _, r4, fun hf => (by simp at hf), fun _ => ⟨_, incI (by omega), ⟨i + 1, rfl, hlt, rfl⟩, by simp only [numAt]; omega⟩⟩

end

end Go.Vc

