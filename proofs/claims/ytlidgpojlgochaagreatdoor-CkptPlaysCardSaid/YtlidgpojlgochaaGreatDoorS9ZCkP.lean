/- CkptAny. -/
import Derived.Test.YtlidgpojlgochaaGreatDoorS9ZCkO
set_option maxRecDepth 10000
namespace Go.Vc
open Go Go.Proofs Go.MapKept

def AnyTail (R : Ending → Hp → Prop) (x42r0p_ : Option Addr) (x42r0n_ : Nat) (x49r1_ : ByteArray) (x139r1_ : Int) (b_1 b_5 : Nat) (hp_21 : Hp) : Prop :=
    ∃ B_4 : Bool, ((((decide (x139r1_ = (0 : Int))) = true →
              ∃ x145f0_ : Int, ∃ x145f1_ : Int, cellsAt hp_21 b_5 0 [(Value.int .i64 x145f0_), (Value.int .i64 x145f1_)] ∧
              ∃ x147f0_ : Int, ∃ x147f1_ : Int, cellsAt hp_21 b_1 (0 + 3) [(Value.int .i64 x147f0_), (Value.int .i64 x147f1_)] ∧
              ∃ x148_, EqV Tryz.prog 37 (Value.agg #[(Value.int .i64 x145f0_), (Value.int .i64 x145f1_)]) (Value.agg #[(Value.int .i64 x147f0_), (Value.int .i64 x147f1_)]) x148_ ∧
              ((x148_ = true →
                ∃ x152_ : Int, cellsAt hp_21 b_1 (0 + 0) [(Value.int .i64 x152_)] ∧
                (((decide (x152_ = (0 : Int))) = true →
                  ∃ x162_ : Int, cellsAt hp_21 b_1 (0 + 1) [(Value.int .u64 x162_)] ∧
                  (((decide ((1 : Int) ≤ x162_)) = true →
                    ∃ x167_ : Int, cellsAt hp_21 b_1 (0 + 1) [(Value.int .u64 x167_)] ∧
                    (((decide (x167_ ≤ (9223372036854775807 : Int))) = true →
                      ∃ x172_ : Int, cellsAt hp_21 b_1 (0 + 2) [(Value.int .u64 x172_)] ∧
                      (((decide ((1 : Int) ≤ x172_)) = true →
                        ∃ x177_ : Int, cellsAt hp_21 b_1 (0 + 2) [(Value.int .u64 x177_)] ∧
                        hp_21 = hp_21 ∧ B_4 = (decide (x177_ ≤ (9223372036854775807 : Int)))) ∧
                       ((decide ((1 : Int) ≤ x172_)) = false →
                        hp_21 = hp_21 ∧ B_4 = false))) ∧
                     ((decide (x167_ ≤ (9223372036854775807 : Int))) = false →
                      hp_21 = hp_21 ∧ B_4 = false))) ∧
                   ((decide ((1 : Int) ≤ x162_)) = false →
                    hp_21 = hp_21 ∧ B_4 = false))) ∧
                 ((decide (x152_ = (0 : Int))) = false →
                  ∃ x156_ : Int, cellsAt hp_21 b_1 (0 + 0) [(Value.int .i64 x156_)] ∧
                  (((decide (x156_ = (1 : Int))) = true →
                    ∃ x162_1 : Int, cellsAt hp_21 b_1 (0 + 1) [(Value.int .u64 x162_1)] ∧
                    (((decide ((1 : Int) ≤ x162_1)) = true →
                      ∃ x167_1 : Int, cellsAt hp_21 b_1 (0 + 1) [(Value.int .u64 x167_1)] ∧
                      (((decide (x167_1 ≤ (9223372036854775807 : Int))) = true →
                        ∃ x172_1 : Int, cellsAt hp_21 b_1 (0 + 2) [(Value.int .u64 x172_1)] ∧
                        (((decide ((1 : Int) ≤ x172_1)) = true →
                          ∃ x177_1 : Int, cellsAt hp_21 b_1 (0 + 2) [(Value.int .u64 x177_1)] ∧
                          hp_21 = hp_21 ∧ B_4 = (decide (x177_1 ≤ (9223372036854775807 : Int)))) ∧
                         ((decide ((1 : Int) ≤ x172_1)) = false →
                          hp_21 = hp_21 ∧ B_4 = false))) ∧
                       ((decide (x167_1 ≤ (9223372036854775807 : Int))) = false →
                        hp_21 = hp_21 ∧ B_4 = false))) ∧
                     ((decide ((1 : Int) ≤ x162_1)) = false →
                      hp_21 = hp_21 ∧ B_4 = false))) ∧
                   ((decide (x156_ = (1 : Int))) = false →
                    hp_21 = hp_21 ∧ B_4 = false))))) ∧
               (x148_ = false →
                hp_21 = hp_21 ∧ B_4 = false))) ∧
             ((decide (x139r1_ = (0 : Int))) = false →
              hp_21 = hp_21 ∧ B_4 = false))) ∧
           ∃ B_5 : Bool, (((B_4 = true →
              ∃ x182f0_ : Int, ∃ x182f1_ : Int, ∃ x182f2_ : Int, ∃ x182f3_ : Int, ∃ x182f4_ : Int, cellsAt hp_21 b_1 0 [(Value.int .i64 x182f0_), (Value.int .u64 x182f1_), (Value.int .u64 x182f2_), (Value.int .i64 x182f3_), (Value.int .i64 x182f4_)] ∧
              ∃ b_6 o_1, x42r0p_ = some ⟨b_6, o_1, none⟩ ∧ 0 ≤ (0 : Int) ∧ (0 : Int) < (x42r0n_ : Int) ∧
              ∃ x185f0_ : Int, ∃ x185f1_ : Int, ∃ x185f2_ : Int, ∃ x185f3_ : Int, ∃ x185f4_ : Int, cellsAt hp_21 b_6 (o_1 + Int.toNat (0 : Int) * 5) [(Value.int .i64 x185f0_), (Value.int .u64 x185f1_), (Value.int .u64 x185f2_), (Value.int .i64 x185f3_), (Value.int .i64 x185f4_)] ∧
              ∃ x186_, EqV Tryz.prog 39 (Value.agg #[(Value.int .i64 x182f0_), (Value.int .u64 x182f1_), (Value.int .u64 x182f2_), (Value.int .i64 x182f3_), (Value.int .i64 x182f4_)]) (Value.agg #[(Value.int .i64 x185f0_), (Value.int .u64 x185f1_), (Value.int .u64 x185f2_), (Value.int .i64 x185f3_), (Value.int .i64 x185f4_)]) x186_ ∧
              ((x186_ = true →
                (((decide ((1 : Int) ≤ (ByteArray.size x49r1_ : Int))) = true →
                  ∃ x197_ : Int, cellsAt hp_21 b_5 (0 + 0) [(Value.int .i64 x197_)] ∧
                  ∃ x198_, IntKind.i64.wrap ((491 : Int) * x197_) = x198_ ∧
                  (((decide ((ByteArray.size x49r1_ : Int) ≤ x198_)) = true →
                    (((decide (((x42r0n_ : Nat) : Int) = (1 : Int))) = true →
                      hp_21 = hp_21 ∧ B_5 = true) ∧
                     ((decide (((x42r0n_ : Nat) : Int) = (1 : Int))) = false →
                      ∃ b_7 o_2, x42r0p_ = some ⟨b_7, o_2, none⟩ ∧ 0 ≤ (1 : Int) ∧ (1 : Int) < (x42r0n_ : Int) ∧
                      ∃ x209_ : Int, cellsAt hp_21 b_7 ((o_2 + Int.toNat (1 : Int) * 5) + 1) [(Value.int .u64 x209_)] ∧
                      ∃ x211_ : Int, cellsAt hp_21 b_1 (0 + 1) [(Value.int .u64 x211_)] ∧
                      hp_21 = hp_21 ∧ B_5 = (decide (x209_ ≤ x211_))))) ∧
                   ((decide ((ByteArray.size x49r1_ : Int) ≤ x198_)) = false →
                    hp_21 = hp_21 ∧ B_5 = false))) ∧
                 ((decide ((1 : Int) ≤ (ByteArray.size x49r1_ : Int))) = false →
                  hp_21 = hp_21 ∧ B_5 = false))) ∧
               (x186_ = false →
                hp_21 = hp_21 ∧ B_5 = false))) ∧
             (B_4 = false →
              hp_21 = hp_21 ∧ B_5 = false))) ∧
           R (.returned (Value.bool B_5)) hp_21

theorem any_tail {R : Ending → Hp → Prop} {hq : Hp} {n b1 b5 : Nat} {p : Option Addr} {t : Tk} {l : List Tk} {im : ByteArray} (hr : rightH n t.h = true) (ft : t.Fit) (hl : l = [] ∨ ∃ u, l = [u] ∧ u.h.gen ≤ t.h.gen) (him : im.size = t.size)
    (c1 : hq[b1]? = some (.cells (hdV t.h).toArray 39)) (c5 : hq[b5]? = some (.cells (lyV (t.h.ls, t.h.ll)).toArray 37)) (sg : SegS hq p (l.length + 1) 5 (((t :: l).map (·.h)).map hdV)) (hR : R (.returned (.bool true)) hq) : AnyTail R p (l.length + 1) im 0 b1 b5 hq := by
  obtain ⟨r1, r2, r3, r4, r5, r6, r7, r8⟩ := rightH_ok hr
  have hsz := ft.n2
  have hs0 := ft.n0
  obtain ⟨bb, oo, e1, e2, e3, e4⟩ := sg.at (i := 0) (by simp)
  have e4 : cellsAt hq bb (oo + Int.toNat (0 : Int) * 5) (hdV t.h) := e4
  have nums : ∃ x162_ : Int, cellsAt hq b1 (0 + 1) [(Value.int .u64 x162_)] ∧
      (((decide ((1 : Int) ≤ x162_)) = true → ∃ x167_ : Int, cellsAt hq b1 (0 + 1) [(Value.int .u64 x167_)] ∧
        (((decide (x167_ ≤ (9223372036854775807 : Int))) = true → ∃ x172_ : Int, cellsAt hq b1 (0 + 2) [(Value.int .u64 x172_)] ∧
          (((decide ((1 : Int) ≤ x172_)) = true → ∃ x177_ : Int, cellsAt hq b1 (0 + 2) [(Value.int .u64 x177_)] ∧ hq = hq ∧ true = (decide (x177_ ≤ (9223372036854775807 : Int)))) ∧
           ((decide ((1 : Int) ≤ x172_)) = false → hq = hq ∧ true = false))) ∧
         ((decide (x167_ ≤ (9223372036854775807 : Int))) = false → hq = hq ∧ true = false))) ∧
       ((decide ((1 : Int) ≤ x162_)) = false → hq = hq ∧ true = false)) := by
    refine ⟨_, cellsAt_one (cellH_at c1), fun _ => ⟨_, cellsAt_one (cellH_at c1), fun _ => ⟨_, cellsAt_one (cellH_at c1), fun _ => ⟨_, cellsAt_one (cellH_at c1), rfl, ?_⟩, fun hf => ?_⟩, fun hf => ?_⟩, fun hf => ?_⟩
    · exact (decide_eq_true (by omega)).symm
    · have := of_decide_eq_false hf; omega
    · have := of_decide_eq_false hf; omega
    · have := of_decide_eq_false hf; omega
  refine ⟨true, ⟨fun _ => ⟨_, _, cellsAt_all (vs := lyV (t.h.ls, t.h.ll)) c5, t.h.ls, t.h.ll, hd_lay c1, _, eqv_lay (t.h.ls, t.h.ll) (t.h.ls, t.h.ll), fun _ => ⟨t.h.slot, cellsAt_one (cellH_at c1), fun _ => nums, fun h0 => ⟨t.h.slot, cellsAt_one (cellH_at c1), fun _ => nums, fun h1 => ?_⟩⟩, fun hf => (by simp at hf)⟩, fun hf => (by simp at hf)⟩, true, ⟨fun _ => ⟨_, _, _, _, _, cellsAt_all (vs := hdV t.h) c1, bb, oo, e1, e2, e3, _, _, _, _, _, e4, _, eqv_hd t.h t.h, fun _ => ⟨fun _ => ⟨t.h.ls, cellsAt_one (cellH_at c5), _, wrapI64 (by omega) (by omega), fun _ => ⟨fun _ => ⟨rfl, rfl⟩, fun h2 => ?_⟩, fun hf => ?_⟩, fun hf => ?_⟩, fun hf => (by simp at hf)⟩, fun hf => (by cases hf)⟩, hR⟩
  · have h0 := of_decide_eq_false h0; have h1 := of_decide_eq_false h1
    rcases r6 with e | e
    · exact (h0 e).elim
    · exact (h1 e).elim
  · rcases hl with rfl | ⟨u, rfl, hu⟩
    · simp at h2
    · obtain ⟨bb', oo', f1, f2, f3, f4⟩ := sg.get (i := 1) (by simp)
      have f4 := f4 1 (vU u.h.gen) rfl
      exact ⟨bb', oo', f1, f2, f3, _, f4, _, cellsAt_one (cellH_at c1), rfl, (decide_eq_true (by omega)).symm⟩
  · have := of_decide_eq_false hf; omega
  · have := of_decide_eq_false hf; omega

theorem st_new {h : Hp} (a b c : Int) {K : Nat → Hp → Prop} (hK : ∀ q h2, q = h.size → Ext h h2 → h2[q]? = some (.cells #[vZ a, vZ b, vZ c] 62) → K q h2) :
    ∀ q hp, q = Array.size h → hp = Array.push h (.cells (zeros Tryz.prog 62) 62) → (∃ i z, Tryz.prog.info? 62 = some i ∧ i.zero = some z) ∧ List.length [vZ a, vZ b, vZ c] = 3 ∧ (∀ v ∈ [vZ a, vZ b, vZ c], v.oneCell' = true) ∧ wrAt hp q 0 3 ∧ ∀ h2, h2 = setsH hp q 0 [vZ a, vZ b, vZ c] → K q h2 := by
  intro q hp hq e
  have x : Ext h hp := by rw [e]; exact Ext.push _ _
  have c1 : hp[q]? = some (.cells [vI 0, vI 0, vI 0].toArray 62) := by rw [e, hq, zerosStats]; exact push_last
  obtain ⟨q3, q4⟩ := all_set c1 [vZ a, vZ b, vZ c] rfl
  refine ⟨infoStats, rfl, by simp [Value.oneCell'], q3, fun h2 e2 => hK q h2 hq ?_ (by rw [e2]; exact q4)⟩
  rw [e2]
  exact x.over (setsH_same (B := fun x => x = q) rfl) fun x hx => by omega

end Go.Vc
