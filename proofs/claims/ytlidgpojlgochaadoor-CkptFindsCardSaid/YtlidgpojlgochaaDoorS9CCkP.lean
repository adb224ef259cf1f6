/- CkptAny. -/
import Derived.Test.YtlidgpojlgochaaDoorS9CCkO
set_option maxRecDepth 10000
namespace Go.Vc
open Go Go.Proofs Go.MapKept

def AnyTail (R : Ending → Hp → Prop) (x42r0p_ : Option Addr) (x42r0n_ : Nat) (x49r1_ : ByteArray) (x139r1_ : Int) (b_1 b_5 : Nat) (hp_21 : Hp) : Prop :=
    ∃ B_4 : Bool, ((((decide (x139r1_ = (0 : Int))) = true →
              ∃ x145f0_ : Int, ∃ x145f1_ : Int, cellsAt hp_21 b_5 0 [(Value.int .i64 x145f0_), (Value.int .i64 x145f1_)] ∧
              ∃ x147f0_ : Int, ∃ x147f1_ : Int, cellsAt hp_21 b_1 (0 + 3) [(Value.int .i64 x147f0_), (Value.int .i64 x147f1_)] ∧
              ∃ x148_, EqV Tryd.prog 24 (Value.agg #[(Value.int .i64 x145f0_), (Value.int .i64 x145f1_)]) (Value.agg #[(Value.int .i64 x147f0_), (Value.int .i64 x147f1_)]) x148_ ∧
              ((x148_ = true →
                ∃ x152_ : Int, cellsAt hp_21 b_1 (0 + 0) [(Value.int .i64 x152_)] ∧
                (((decide (x152_ = (0 : Int))) = true →
                  ∃ x162_ : Int, cellsAt hp_21 b_1 (0 + 1) [(Value.int .u64 x162_)] ∧
                  (((decide ((1 : Int) ≤ x162_)) = true →
                    ∃ x167_ : Int, cellsAt hp_21 b_1 (0 + 1) [(Value.int .u64 x167_)] ∧
                    (((decide (x167_ ≤ (9223372036854775807 : Int))) = true →
                      ∃ x172_ : Int, cellsAt hp_21 b_1 (0 + 2) [(Value.int .u64 x172_)] ∧
                      (((decide ((1 : Int) ≤ x172_)) = true →
                        ∃ x177_ : Int, cellsAt hp_21 b_1 (0 + 2) [(Value.int .u64 x177_)] ∧
                        hp_21 = hp_21 ∧ B_4 = (decide (x177_ ≤ (9223372036854775807 : Int)))) ∧
                       ((decide ((1 : Int) ≤ x172_)) = false →
                        hp_21 = hp_21 ∧ B_4 = false))) ∧
                     ((decide (x167_ ≤ (9223372036854775807 : Int))) = false →
                      hp_21 = hp_21 ∧ B_4 = false))) ∧
                   ((decide ((1 : Int) ≤ x162_)) = false →
                    hp_21 = hp_21 ∧ B_4 = false))) ∧
                 ((decide (x152_ = (0 : Int))) = false →
                  ∃ x156_ : Int, cellsAt hp_21 b_1 (0 + 0) [(Value.int .i64 x156_)] ∧
                  (((decide (x156_ = (1 : Int))) = true →
                    ∃ x162_1 : Int, cellsAt hp_21 b_1 (0 + 1) [(Value.int .u64 x162_1)] ∧
                    (((decide ((1 : Int) ≤ x162_1)) = true →
                      ∃ x167_1 : Int, cellsAt hp_21 b_1 (0 + 1) [(Value.int .u64 x167_1)] ∧
                      (((decide (x167_1 ≤ (9223372036854775807 : Int))) = true →
                        ∃ x172_1 : Int, cellsAt hp_21 b_1 (0 + 2) [(Value.int .u64 x172_1)] ∧
                        (((decide ((1 : Int) ≤ x172_1)) = true →
                          ∃ x177_1 : Int, cellsAt hp_21 b_1 (0 + 2) [(Value.int .u64 x177_1)] ∧
                          hp_21 = hp_21 ∧ B_4 = (decide (x177_1 ≤ (9223372036854775807 : Int)))) ∧
                         ((decide ((1 : Int) ≤ x172_1)) = false →
                          hp_21 = hp_21 ∧ B_4 = false))) ∧
                       ((decide (x167_1 ≤ (9223372036854775807 : Int))) = false →
                        hp_21 = hp_21 ∧ B_4 = false))) ∧
                     ((decide ((1 : Int) ≤ x162_1)) = false →
                      hp_21 = hp_21 ∧ B_4 = false))) ∧
                   ((decide (x156_ = (1 : Int))) = false →
                    hp_21 = hp_21 ∧ B_4 = false))))) ∧
               (x148_ = false →
                hp_21 = hp_21 ∧ B_4 = false))) ∧
             ((decide (x139r1_ = (0 : Int))) = false →
              hp_21 = hp_21 ∧ B_4 = false))) ∧
           ∃ B_5 : Bool, (((B_4 = true →
              ∃ x182f0_ : Int, ∃ x182f1_ : Int, ∃ x182f2_ : Int, ∃ x182f3_ : Int, ∃ x182f4_ : Int, cellsAt hp_21 b_1 0 [(Value.int .i64 x182f0_), (Value.int .u64 x182f1_), (Value.int .u64 x182f2_), (Value.int .i64 x182f3_), (Value.int .i64 x182f4_)] ∧
              ∃ b_6 o_1, x42r0p_ = some ⟨b_6, o_1, none⟩ ∧ 0 ≤ (0 : Int) ∧ (0 : Int) < (x42r0n_ : Int) ∧
              ∃ x185f0_ : Int, ∃ x185f1_ : Int, ∃ x185f2_ : Int, ∃ x185f3_ : Int, ∃ x185f4_ : Int, cellsAt hp_21 b_6 (o_1 + Int.toNat (0 : Int) * 5) [(Value.int .i64 x185f0_), (Value.int .u64 x185f1_), (Value.int .u64 x185f2_), (Value.int .i64 x185f3_), (Value.int .i64 x185f4_)] ∧
              ∃ x186_, EqV Tryd.prog 26 (Value.agg #[(Value.int .i64 x182f0_), (Value.int .u64 x182f1_), (Value.int .u64 x182f2_), (Value.int .i64 x182f3_), (Value.int .i64 x182f4_)]) (Value.agg #[(Value.int .i64 x185f0_), (Value.int .u64 x185f1_), (Value.int .u64 x185f2_), (Value.int .i64 x185f3_), (Value.int .i64 x185f4_)]) x186_ ∧
              ((x186_ = true →
                (((decide ((1 : Int) ≤ (ByteArray.size x49r1_ : Int))) = true →
                  ∃ x197_ : Int, cellsAt hp_21 b_5 (0 + 0) [(Value.int .i64 x197_)] ∧
                  ∃ x198_, IntKind.i64.wrap ((491 : Int) * x197_) = x198_ ∧
                  (((decide ((ByteArray.size x49r1_ : Int) ≤ x198_)) = true →
                    (((decide (((x42r0n_ : Nat) : Int) = (1 : Int))) = true →
                      hp_21 = hp_21 ∧ B_5 = true) ∧
                     ((decide (((x42r0n_ : Nat) : Int) = (1 : Int))) = false →
                      ∃ b_7 o_2, x42r0p_ = some ⟨b_7, o_2, none⟩ ∧ 0 ≤ (1 : Int) ∧ (1 : Int) < (x42r0n_ : Int) ∧
                      ∃ x209_ : Int, cellsAt hp_21 b_7 ((o_2 + Int.toNat (1 : Int) * 5) + 1) [(Value.int .u64 x209_)] ∧
                      ∃ x211_ : Int, cellsAt hp_21 b_1 (0 + 1) [(Value.int .u64 x211_)] ∧
                      hp_21 = hp_21 ∧ B_5 = (decide (x209_ ≤ x211_))))) ∧
                   ((decide ((ByteArray.size x49r1_ : Int) ≤ x198_)) = false →
                    hp_21 = hp_21 ∧ B_5 = false))) ∧
                 ((decide ((1 : Int) ≤ (ByteArray.size x49r1_ : Int))) = false →
                  hp_21 = hp_21 ∧ B_5 = false))) ∧
               (x186_ = false →
                hp_21 = hp_21 ∧ B_5 = false))) ∧
             (B_4 = false →
              hp_21 = hp_21 ∧ B_5 = false))) ∧
           R (.returned (Value.bool B_5)) hp_21

theorem any_tail {R : Ending → Hp → Prop} {hq : Hp} {n b1 b5 : Nat} {p : Option Addr} {t : Tk} {l : List Tk} {im : ByteArray} (hr : rightH n t.h = true) (ft : t.Fit) (hl : l = [] ∨ ∃ u, l = [u] ∧ u.h.gen ≤ t.h.gen) (him : im.size = t.size)
    (c1 : hq[b1]? = some (.cells (hdV t.h).toArray 26)) (c5 : hq[b5]? = some (.cells (lyV (t.h.ls, t.h.ll)).toArray 24)) (sg : SegS hq p (l.length + 1) 5 (((t :: l).map (·.h)).map hdV)) (hR : R (.returned (.bool true)) hq) : AnyTail R p (l.length + 1) im 0 b1 b5 hq := by
  obtain ⟨r1, r2, r3, r4, r5, r6, r7, r8⟩ := rightH_ok hr
  have hsz := ft.n2
  have hs0 := ft.n0
  obtain ⟨bb, oo, e1, e2, e3, e4⟩ := sg.at (i := 0) (by simp)
  have e4 : cellsAt hq bb (oo + Int.toNat (0 : Int) * 5) (hdV t.h) := e4
  have nums : ∃ x162_ : Int, cellsAt hq b1 (0 + 1) [(Value.int .u64 x162_)] ∧
      (((decide ((1 : Int) ≤ x162_)) = true → ∃ x167_ : Int, cellsAt hq b1 (0 + 1) [(Value.int .u64 x167_)] ∧
        (((decide (x167_ ≤ (9223372036854775807 : Int))) = true → ∃ x172_ : Int, cellsAt hq b1 (0 + 2) [(Value.int .u64 x172_)] ∧
          (((decide ((1 : Int) ≤ x172_)) = true → ∃ x177_ : Int, cellsAt hq b1 (0 + 2) [(Value.int .u64 x177_)] ∧ hq = hq ∧ true = (decide (x177_ ≤ (9223372036854775807 : Int)))) ∧
           ((decide ((1 : Int) ≤ x172_)) = false → hq = hq ∧ true = false))) ∧
         ((decide (x167_ ≤ (9223372036854775807 : Int))) = false → hq = hq ∧ true = false))) ∧
       ((decide ((1 : Int) ≤ x162_)) = false → hq = hq ∧ true = false)) := by
    refine ⟨_, cellsAt_one (cellH_at c1), fun _ => ⟨_, cellsAt_one (cellH_at c1), fun _ => ⟨_, cellsAt_one (cellH_at c1), fun _ => ⟨_, cellsAt_one (cellH_at c1), rfl, ?_⟩, fun hf => ?_⟩, fun hf => ?_⟩, fun hf => ?_⟩
    · exact (decide_eq_true (by omega)).symm
    · have := of_decide_eq_false hf; omega
    · have := of_decide_eq_false hf; omega
    · have := of_decide_eq_false hf; omega
  refine ⟨true, ⟨fun _ => ⟨_, _, cellsAt_all (vs := lyV (t.h.ls, t.h.ll)) c5, t.h.ls, t.h.ll, hd_lay c1, _, eqv_lay (t.h.ls, t.h.ll) (t.h.ls, t.h.ll), fun _ => ⟨t.h.slot, cellsAt_one (cellH_at c1), fun _ => nums, fun h0 => ⟨t.h.slot, cellsAt_one (cellH_at c1), fun _ => nums, fun h1 => ?_⟩⟩, fun hf => (by simp at hf)⟩, fun hf => (by simp at hf)⟩, true, ⟨fun _ => ⟨_, _, _, _, _, cellsAt_all (vs := hdV t.h) c1, bb, oo, e1, e2, e3, _, _, _, _, _, e4, _, eqv_hd t.h t.h, fun _ => ⟨fun _ => ⟨t.h.ls, cellsAt_one (cellH_at c5), _, wrapI64 (by omega) (by omega), fun _ => ⟨fun _ => ⟨rfl, rfl⟩, fun h2 => ?_⟩, fun hf => ?_⟩, fun hf => ?_⟩, fun hf => (by simp at hf)⟩, fun hf => (by cases hf)⟩, hR⟩
  · have h0 := of_decide_eq_false h0; have h1 := of_decide_eq_false h1
    rcases r6 with e | e
    · exact (h0 e).elim
    · exact (h1 e).elim
  · rcases hl with rfl | ⟨u, rfl, hu⟩
    · simp at h2
    · obtain ⟨bb', oo', f1, f2, f3, f4⟩ := sg.get (i := 1) (by simp)
      have f4 := f4 1 (vU u.h.gen) rfl
      exact ⟨bb', oo', f1, f2, f3, _, f4, _, cellsAt_one (cellH_at c1), rfl, (decide_eq_true (by omega)).symm⟩
  · have := of_decide_eq_false hf; omega
  · have := of_decide_eq_false hf; omega

theorem st_new {h : Hp} (a b c : Int) {K : Nat → Hp → Prop} (hK : ∀ q h2, q = h.size → Ext h h2 → h2[q]? = some (.cells #[vZ a, vZ b, vZ c] 58) → K q h2) :
    ∀ q hp, q = Array.size h → hp = Array.push h (.cells (zeros Tryd.prog 58) 58) → (∃ i z, Tryd.prog.info? 58 = some i ∧ i.zero = some z) ∧ List.length [vZ a, vZ b, vZ c] = 3 ∧ (∀ v ∈ [vZ a, vZ b, vZ c], v.oneCell' = true) ∧ wrAt hp q 0 3 ∧ ∀ h2, h2 = setsH hp q 0 [vZ a, vZ b, vZ c] → K q h2 := by
  intro q hp hq e
  have x : Ext h hp := by rw [e]; exact Ext.push _ _
  have c1 : hp[q]? = some (.cells [vI 0, vI 0, vI 0].toArray 58) := by rw [e, hq, zerosStats]; exact push_last
  obtain ⟨q3, q4⟩ := all_set c1 [vZ a, vZ b, vZ c] rfl
  refine ⟨infoStats, rfl, by simp [Value.oneCell'], q3, fun h2 e2 => hK q h2 hq ?_ (by rw [e2]; exact q4)⟩
  rw [e2]
  exact x.over (setsH_same (B := fun x => x = q) rfl) fun x hx => by omega

set_option maxHeartbeats 1000000 in
/-- turnoutlaw20.CkptAny -/
theorem any_law (image : ByteArray) (himg : image.size ≤ 9223372036854775807) (h : Hp) (hh : Halves h) : CallsH Tryd.prog 7 #[.string image] h (RetX (.bool true) h) := by
  refine V7 _ h _ ((awake_c h hh).mono ?_)
  rintro e h1 ⟨x1, rfl⟩
  refine ⟨_, rfl, (load_c image himg).mono ?_⟩
  rintro e h2 (⟨hbad, rfl, rfl⟩ | ⟨hok, d, F, rfl⟩)
  · refine ⟨_, _, rfl, fun _ _ => False, ⟨true, ⟨fun hf => (by simp at hf), fun _ => ⟨fun _ => ⟨rfl, rfl⟩, fun hf => (by simp at hf)⟩⟩, fun _ => ⟨true, ⟨fun _ => ⟨rfl, by simp⟩, fun hf => (by cases hf)⟩, rfl, x1⟩, fun hf => (by cases hf)⟩, fun _ hf => hf.elim⟩
  have W2 := Wk.fresh F
  obtain ⟨C, hC⟩ : ∃ C : Nat → Prop, C = fun b => h1.size ≤ b ∧ b < h2.size := ⟨_, rfl⟩
  rw [← hC] at W2
  have W2 : Wk NoB h C h2 d (DS.fresh (chunks image)) := ⟨(x1.same NoB).trans W2.same fun _ h _ => h, W2.disk, fun b hb => .inr (by rw [hC] at hb; have := x1.size; omega)⟩
  obtain ⟨σ, hσ⟩ : ∃ σ, σ = DS.fresh (chunks image) := ⟨_, rfl⟩
  rw [← hσ] at W2
  have hg : σ.gone = false := by rw [hσ]; rfl
  have hr0 : σ.reads = 0 := by rw [hσ]; rfl
  refine ⟨_, _, rfl, fun l hq => hq = h2, ⟨false, ⟨fun hf => (by simp at hf), fun _ => ⟨fun hf => (by simp at hf), fun _ => ⟨false, eqv_ptr uPD _, rfl, rfl⟩⟩⟩, fun hf => (by cases hf), fun _ => rfl⟩, ?_⟩
  rintro h2' rfl
  refine (W2.heads hh id).mono ?_
  rintro e h3 ⟨W3, k3, p, c, rfl, o3⟩
  have x23 : h2'.size ≤ h3.size := k3.1
  obtain ⟨l, hl⟩ : ∃ l, l = (newestF σ).2.1 := ⟨_, rfl⟩
  have hnc : (newestF σ).2.2 = 0 := by rw [newest_on hg]
  rw [← hl] at o3
  rw [← hl, hnc]
  obtain ⟨σ3, hσ3⟩ : ∃ σ3, σ3 = (newestF σ).1 := ⟨_, rfl⟩
  rw [← hσ3] at W3
  have r3 : Rds σ σ3 := by rw [hσ3]; exact newest_rds σ
  have q3 := newest_reads (σ := σ) (by omega) (by omega)
  rw [← hσ3] at q3
  have hg3 : σ3.gone = false := r3.gone.trans hg
  have ho3 : ∀ b, (Value.slice p l.length c).ownBlock = some b → h2'.size ≤ b ∧ ¬ C b := fun b hb => ⟨(o3.lt hb).1, fun hc => by have := W2.disk.lt _ hc; have := (o3.lt hb).1; omega⟩
  refine ⟨_, _, _, _, rfl, (stats_c W3.disk).mono ?_⟩
  rintro e h4 ⟨x4, rfl⟩
  refine ⟨_, _, _, rfl, st_new σ3.reads σ3.writes σ3.flushes fun b h5 hb x5 c5 => ?_⟩
  have W5 := W3.ext (x4.trans x5)
  have o5 := o3.ext (x4.trans x5)
  have nb : ¬ C b := fun h => by have := W3.disk.lt _ h; have := x4.size; omega
  refine (W5.find hh id).mono ?_
  rintro e h6 ⟨W6, k6, rfl⟩
  have hfind := (Rds.find r3 hg)
  obtain ⟨Q, hQ⟩ : ∃ Q, Q = (findF σ3).2 := ⟨_, rfl⟩
  have q6 : ∀ t l', (newestF σ3).2.1 = t :: l' → _ := fun t l' hh => find_reads (σ := σ3) (t := t) (l := l') (by omega) (by omega) hh
  rw [r3.newest hg, ← hl] at q6
  have r6 : Rds σ3 (findF σ3).1 := find_rds σ3
  obtain ⟨σ6, hσ6⟩ : ∃ σ6, σ6 = (findF σ3).1 := ⟨_, rfl⟩
  rw [← hσ6] at W6 r6 q6
  rw [← hQ]
  obtain ⟨c6, nb6⟩ := k6.cell c5 nb
  obtain ⟨o6, no6⟩ := k6.own o5 fun b hb => (ho3 b hb).2
  refine ⟨_, _, _, _, _, _, _, rfl, hd_new Q.1 fun b1 h7 hb1 x7 c7 => ?_⟩
  have W7 := W6.ext x7
  have d7 := (x7.old b (Array.getElem?_eq_some_iff.1 c6).1).trans c6
  have o7 := o6.ext x7
  have nb1 : ¬ C b1 := fun h => by have := W6.disk.lt _ h; omega
  refine (stats_c W7.disk).mono ?_
  rintro e h8 ⟨x8, rfl⟩
  refine ⟨_, _, _, rfl, st_new σ6.reads σ6.writes σ6.flushes fun b2 h9 hb2 x9 c9 => ?_⟩
  have x79 := x8.trans x9
  have W9 := W7.ext x79
  have d9 := (x79.old b (Array.getElem?_eq_some_iff.1 d7).1).trans d7
  have f9 := (x79.old b1 (Array.getElem?_eq_some_iff.1 c7).1).trans c7
  have o9 := o7.ext x79
  have nb2 : ¬ C b2 := fun h => by have := W7.disk.lt _ h; have := x8.size; omega
  refine (W9.find hh id).mono ?_
  rintro e h10 ⟨W10, k10, rfl⟩
  have hQ2 : (findF σ6).2 = Q := by rw [Rds.find r6 hg3, hQ]
  rw [hQ2]
  have r10 : Rds σ (findF σ6).1 := (r3.trans r6).trans (find_rds σ6)
  obtain ⟨c10, _⟩ := k10.cell c9 nb2
  obtain ⟨d10, _⟩ := k10.cell d9 nb6
  obtain ⟨f10, _⟩ := k10.cell f9 nb1
  obtain ⟨o10, _⟩ := k10.own o9 no6
  refine ⟨_, _, _, _, _, _, _, rfl, hd_new Q.1 fun b3 h11 hb3 x11 c11 => ?_⟩
  have W11 := W10.ext x11
  have e11 := (x11.old b2 (Array.getElem?_eq_some_iff.1 c10).1).trans c10
  have d11 := (x11.old b (Array.getElem?_eq_some_iff.1 d10).1).trans d10
  have f11 := (x11.old b1 (Array.getElem?_eq_some_iff.1 f10).1).trans f10
  have o11 := o10.ext x11
  have hw : σ6.writes = 0 ∧ σ6.flushes = 0 := by
    obtain ⟨r, hr⟩ := r3.trans r6
    rw [hr, hσ]; exact ⟨rfl, rfl⟩
  refine ⟨fun l' hq => Ext h11 hq, ⟨fun hf => (by simp at hf), fun _ => ⟨_, _, _, _, _, cellsAt_all (vs := hdV Q.1) c11, _, _, _, _, _, cellsAt_all (vs := hdV Q.1) f11, _, eqv_hd Q.1 Q.1, fun hf => (by simp at hf), fun _ => ⟨fun hf => (by simp at hf), fun _ => ⟨fun hf => (by simp at hf), fun _ => ⟨σ6.writes, cellsAt_one (cellH_at e11), fun hf => (by rw [hw.1] at hf; simp at hf), fun _ => ⟨σ6.flushes, cellsAt_one (cellH_at e11), fun hf => (by rw [hw.2] at hf; simp at hf), fun _ => (image_c W11.disk).mono ?_⟩⟩⟩⟩⟩⟩, ?_⟩
  · rintro e h12 ⟨x12, rfl⟩
    have him : ((findF σ6).1).image = image := image_chunks hok (by rw [r10.safe, hσ]; rfl)
    rw [him]
    exact ⟨_, rfl, fun hf => (by simp at hf), fun _ => x12⟩
  intro h12 x12
  have W12 := W11.ext x12
  have g12 := (x12.old b1 (Array.getElem?_eq_some_iff.1 f11).1).trans f11
  have e12 := (x12.old b2 (Array.getElem?_eq_some_iff.1 e11).1).trans e11
  have d12 := (x12.old b (Array.getElem?_eq_some_iff.1 d11).1).trans d11
  have o12 := o11.ext x12
  have fin : ∀ {hq : Hp}, Ext h12 hq → RetX (.bool true) h (.returned (.bool true)) hq := fun x => ⟨rfl, W12.same.toExt.trans x⟩
  have any := find_any hg
  rw [← hl] at any
  rw [hfind] at hQ
  rw [← hQ] at any
  rcases any with ⟨a1, a2⟩ | ⟨t, l', a1, a2⟩
  · refine ⟨fun _ => ⟨true, ⟨fun _ => ⟨fun _ => ⟨_, _, _, _, _, cellsAt_all (vs := hdV Q.1) g12, _, eqv_hd Q.1 Hd.no, rfl, by rw [a2]; simp⟩, fun hf => (by rw [a2] at hf; simp at hf)⟩, fun hf => (by rw [a2] at hf; simp at hf)⟩, fin (Ext.refl _)⟩, fun hf => (by rw [a1] at hf; simp at hf)⟩
  have ft : t.Fit := newest_fit (σ := σ) (by rw [← hl, a1]; simp)
  have hrt : rightH σ.safe.length t.h = true := newest_right hg (by rw [← hl, a1]; simp)
  have hl' : l' = [] ∨ ∃ u, l' = [u] ∧ u.h.gen ≤ t.h.gen := by
    cases l' with
    | nil => exact .inl rfl
    | cons u l'' =>
      obtain ⟨s1, s2⟩ := newest_sorted hg (hl.symm.trans a1)
      exact .inr ⟨u, by rw [s2], s1⟩
  subst a1
  have hseg : SegS h12 p (l'.length + 1) 5 (((t :: l').map (·.h)).map hdV) := o12.segS (by intro r hr; obtain ⟨t, _, rfl⟩ := List.mem_map.1 hr; rfl) (by simp)
  obtain ⟨bb, oo, s1, s2, s3, s4⟩ := hseg.get (i := 0) (by simp)
  have s4 := s4 3 (vZ t.h.ls) rfl
  have hrd := q6 t l' rfl
  have fl0 := ft.l0
  have fl1 := ft.l1
  refine ⟨fun hf => (by have h1 := of_decide_eq_true hf; simp only [List.length_cons] at h1; omega), fun _ => ⟨σ6.reads, cellsAt_one (cellH_at e12), σ3.reads, cellsAt_one (cellH_at d12), _, wrapI64 (by omega) (by omega), bb, oo, s1, s2, s3, t.h.ls, s4, _, wrapI64 (by omega) (by omega), fun hf => ?_, fun _ => ?_⟩⟩
  · have := of_decide_eq_true hf; omega
  rcases a2 with a2 | ⟨im, a2, a3⟩
  · refine ⟨fun _ => ⟨true, ⟨fun _ => ⟨fun _ => ⟨_, _, _, _, _, cellsAt_all (vs := hdV Q.1) g12, _, eqv_hd Q.1 Hd.no, rfl, by rw [a2]; simp⟩, fun hf => (by rw [a2] at hf; simp at hf)⟩, fun hf => (by rw [a2] at hf; simp at hf)⟩, fin (Ext.refl _)⟩, fun hf => (by rw [a2] at hf; simp at hf)⟩
  refine ⟨fun hf => (by rw [a2] at hf; simp at hf), fun _ => ?_⟩
  rw [a2] at g12 ⊢
  have hlf : layF (σ.safe.length : Int) t.h.ls = ((t.h.ls, t.h.ll), 0) := FitsH.lay (image := im) ⟨hrt, by rw [a3]; exact ft.n0, by rw [a3]; unfold mostH; have := ft.n1; have := ft.n2; omega⟩
  have hsl : (findF σ6).1.safe.length = σ.safe.length := by rw [r10.safe]
  have lb1 := (Array.getElem?_eq_some_iff.1 g12).1
  have CV : ∀ h' : Hp, h'[b1]? = some (.cells (hdV t.h).toArray 26) → cellsAt h' b1 ((0 + 3) + 0) [vZ t.h.ls] := fun h' c => cellsAt_one (cellH_at c)
  have tail : ∀ {hq : Hp} {b5 : Nat}, Ext h12 hq → hq[b5]? = some (.cells (lyV (t.h.ls, t.h.ll)).toArray 24) → AnyTail (RetX (.bool true) h) p (l'.length + 1) im 0 b1 b5 hq := fun x c5 =>
    any_tail hrt ft hl' a3 ((x.old b1 lb1).trans g12) c5 (hseg.ext x) (fin x)
  refine ⟨⟨fun h' => h'[b1]? = some (.cells (hdV t.h).toArray 26), g12, (size_c W12.disk).mono ?_⟩, ⟨fun h' => h'[b1]? = some (.cells (hdV t.h).toArray 26), g12, ?_⟩, ⟨fun h' => h'[b1]? = some (.cells (hdV t.h).toArray 26), g12, (size_c W12.disk).mono ?_⟩⟩
  · rintro e h13 ⟨rfl, rfl⟩
    rw [hsl]
    refine ⟨_, rfl, g12, _, CV, (layout_c _ t.h.ls (by omega) _).mono ?_⟩
    rintro e h14 ⟨x14, rfl⟩
    rw [hlf]
    refine ⟨_, _, _, rfl, (x14.old b1 lb1).trans g12, ?_⟩
    intro b5 h15 hb5 e15
    have x15 : Ext h14 h15 := by rw [e15]; exact Ext.push _ _
    have c15 : h15[b5]? = some (.cells (lyV (0, 0)).toArray 24) := by rw [e15, hb5, zerosLay]; exact push_last
    clear e15
    obtain ⟨q1, q2, q3, q4⟩ := ly_set c15 (t.h.ls, t.h.ll)
    refine ⟨infoLay, ((x14.trans x15).old b1 lb1).trans g12, q1, q2, q3, ?_⟩
    intro h16 e16
    have x16 : Ext h14 h16 := by rw [e16]; exact x15.over (setsH_same (B := fun x => x = b5) rfl) fun x hx => by omega
    exact ⟨((x14.trans x16).old b1 lb1).trans g12, tail (x14.trans x16) (by rw [e16]; exact q4)⟩
  · intro b5 h15 hb5 e15
    have x15 : Ext h12 h15 := by rw [e15]; exact Ext.push _ _
    have c15 : h15[b5]? = some (.cells (lyV (0, 0)).toArray 24) := by rw [e15, hb5, zerosLay]; exact push_last
    clear e15
    refine ⟨infoLay, (x15.old b1 lb1).trans g12, (size_c (W12.ext x15).disk).mono ?_⟩
    rintro e h13 ⟨rfl, rfl⟩
    rw [hsl]
    refine ⟨_, rfl, (x15.old b1 lb1).trans g12, _, CV, (layout_c _ t.h.ls (by omega) _).mono ?_⟩
    rintro e h14 ⟨x14, rfl⟩
    rw [hlf]
    have c14 := (x14.old b5 (Array.getElem?_eq_some_iff.1 c15).1).trans c15
    obtain ⟨q1, q2, q3, q4⟩ := ly_set c14 (t.h.ls, t.h.ll)
    refine ⟨_, _, _, rfl, ((x15.trans x14).old b1 lb1).trans g12, q1, q2, q3, ?_⟩
    intro h16 e16
    have x16 : Ext h12 h16 := by rw [e16]; exact (x15.trans x14).over (setsH_same (B := fun x => x = b5) rfl) fun x hx => by omega
    exact ⟨(x16.old b1 lb1).trans g12, tail x16 (by rw [e16]; exact q4)⟩
  · rintro e h13 ⟨rfl, rfl⟩
    rw [hsl]
    refine ⟨_, rfl, g12, _, CV, ?_⟩
    intro b5 h15 hb5 e15
    have x15 : Ext h13 h15 := by rw [e15]; exact Ext.push _ _
    have c15 : h15[b5]? = some (.cells (lyV (0, 0)).toArray 24) := by rw [e15, hb5, zerosLay]; exact push_last
    clear e15
    refine ⟨infoLay, (x15.old b1 lb1).trans g12, (layout_c _ t.h.ls (by omega) _).mono ?_⟩
    rintro e h14 ⟨x14, rfl⟩
    rw [hlf]
    have c14 := (x14.old b5 (Array.getElem?_eq_some_iff.1 c15).1).trans c15
    obtain ⟨q1, q2, q3, q4⟩ := ly_set c14 (t.h.ls, t.h.ll)
    refine ⟨_, _, _, rfl, ((x15.trans x14).old b1 lb1).trans g12, q1, q2, q3, ?_⟩
    intro h16 e16
    have x16 : Ext h13 h16 := by rw [e16]; exact (x15.trans x14).over (setsH_same (B := fun x => x = b5) rfl) fun x hx => by omega
    exact ⟨(x16.old b1 lb1).trans g12, tail x16 (by rw [e16]; exact q4)⟩

end Go.Vc
