import Derived.Test.YtlidgpojlgochaaGreatDoorS9ZCkK
import Derived.Test.YtlidgpojlgochaaGreatDoorS9ZCkO
import Derived.Test.YtlidgpojlgochaaGreatDoorS9ZRfE
import Derived.Test.YtlidgpojlgochaaGreatDoorS9ZFrZ
set_option maxRecDepth 10000
/- The document's checkpoints: Heads and Find. -/
namespace Go.Vc
open Go Go.Proofs Go.MapKept

section
variable {h : Hp} {B : Nat → Prop} {d : Nat} {σ : DS}

/-- turnoutref05.Get -/
theorem rGet_c (D : RefAt rI h B d σ) (n : Int) : CallsH Tryz.prog 60 #[vP d, vZ n] h fun e h' => Same B h h' ∧ RefAt rI h' B d (σ.read n).1 ∧ e = .returned (.tuple #[.agg (frmV (getF σ n).1).toArray, vZ (getF σ n).2]) := by
  refine V60 _ _ h _ ?_
  intro b h1 hb e1
  have x1 : Ext h h1 := by rw [e1]; exact Ext.push _ _
  have c1 : h1[b]? = some (.cells (frmV Frm.no).toArray 95) := by rw [e1, hb, zerosFrame]; exact push_last
  clear e1
  have l1 := (Array.getElem?_eq_some_iff.1 c1).1
  refine ⟨infoFrame, (rRead_c (D.ext x1) n).mono ?_⟩
  rintro e h2 ⟨y2, z2, D2, rfl⟩
  have nb : ¬ B b := fun hx => by have := D.lt _ hx; omega
  have c2 := (y2.old b l1 nb).trans c1
  have y02 := (x1.same B).trans y2 fun _ h _ => h
  have fin : ∀ (hq hr : Hp) (G : Frm), Ext h2 hq → hr = setsH hq b 0 (frmV G) → Same B h hr ∧ RefAt rI hr B d (σ.read n).1 := by
    intro hq hr G xq er
    have y : Same (fun x => x = b) hq hr := by rw [er]; exact setsH_same rfl
    exact ⟨(y02.trans (xq.same B) fun _ h _ => h).trans y fun x hx hl => by omega, (D2.ext xq).other y fun x hx e => nb (e ▸ hx)⟩
  refine ⟨_, _, rfl, fun hc => ?_, fun hc => ?_⟩
  · have hc : (σ.read n).2.2 ≠ 0 := of_decide_eq_true hc
    have e1 : getF σ n = (Frm.no, (σ.read n).2.2) := by unfold getF; rw [if_pos hc]
    obtain ⟨q1, q2, q3, q4⟩ := frm_set c2 Frm.no
    refine ⟨rfl, q2, q3, fun h3 e3 => ?_⟩
    obtain ⟨f1, f2⟩ := fin h2 h3 Frm.no (Ext.refl _) e3
    exact ⟨_, _, _, _, cellsAt_all (vs := frmV Frm.no) (by rw [e3]; exact q4), f1, f2, by rw [e1]; rfl⟩
  have hc0 : (σ.read n).2.2 = 0 := by have := of_decide_eq_false hc; omega
  have e1 : getF σ n = ((openF (σ.read n).2.1).1, (openF (σ.read n).2.1).2.2) := by unfold getF; rw [if_neg (by simpa using hc0)]
  rw [e1]
  refine (rOpen_c (σ.read n).2.1 h2).mono ?_
  rintro e h3 ⟨x3, rfl⟩
  obtain ⟨G, hG⟩ : ∃ G, G = (openF (σ.read n).2.1).1 := ⟨_, rfl⟩
  unfold openV
  rw [← hG]
  refine ⟨_, _, _, _, _, _, rfl, frm_new G fun b1 h5 hb1 x5 c5 => ?_⟩
  have x25 := x3.trans x5
  have cc5 := (x25.old b (Array.getElem?_eq_some_iff.1 c2).1).trans c2
  obtain ⟨q1, q2, q3, q4⟩ := frm_set cc5 G
  refine ⟨_, _, _, _, cellsAt_all (vs := frmV G) c5, rfl, q2, q3, fun h6 e6 => ?_⟩
  obtain ⟨f1, f2⟩ := fin h5 h6 G x25 e6
  exact ⟨_, _, _, _, cellsAt_all (vs := frmV G) (by rw [e6]; exact q4), f1, f2, rfl⟩

/-- turnoutref20.said -/
theorem rSaid_c (s : ByteArray) (hs : s.size ≤ 8) (h : Hp) : CallsH Tryz.prog 94 #[.string s] h fun e h' => h' = h ∧ e = .returned (vU (numL (bl s))) := by
  refine V94 _ h _ ⟨fun l hq => hq = h ∧ ∃ i : Nat, i ≤ s.size ∧ l = [vU (numL ((bl s).take i)), vI i], fun l _ => (s.size - numAt l 1).toNat, ⟨rfl, 0, Nat.zero_le _, rfl⟩, ?_⟩
  rintro n x hq ⟨rfl, i, hi, hl⟩
  cases hl
  refine ⟨fun hc => ?_, fun hc => ?_⟩
  · have hc : i < s.size := by simpa using hc
    have hsm : numL ((bl s).take i) < 256 ^ 7 := numL_small (by rw [List.length_take]; omega)
    have hsm : numL ((bl s).take i) < 72057594037927936 := hsm
    have h8 := s[i].toNat_lt
    refine ⟨((256 * numL ((bl s).take i) : Nat) : Int), by rw [← wrapU (n := 256 * numL ((bl s).take i)) (by omega)]; congr 1, by omega, _, byteAt hc, _, wrapU (by omega), ((256 * numL ((bl s).take i) + s[i].toNat : Nat) : Int), by rw [← wrapU (n := 256 * numL ((bl s).take i) + s[i].toNat) (by omega)]; congr 1, _, incI (by omega), ⟨rfl, i + 1, hc, ?_⟩, by simp only [numAt]; omega⟩
    rw [take_byte hc, numL_snoc]
  · have hc : i = s.size := by simp at hc; omega
    subst hc
    exact ⟨rfl, by rw [take_size]⟩

/-- turnoutref20.may -/
theorem rMay_c (n s : Int) (h0 : -1000000000 ≤ s) (h1 : s ≤ 1000000000) (h : Hp) : CallsH Tryz.prog 74 #[vZ n, vZ s] h fun e h' => h' = h ∧ e = .returned (.bool (decide (1 ≤ n ∧ n ≤ min (491 * s) 2097152))) := by
  refine V74 _ _ h _ ⟨decide (1 ≤ n ∧ n ≤ min (491 * s) 2097152), ⟨fun k1 => ⟨fun k2 => ⟨_, wrapI64 (by omega) (by omega), rfl, ?_⟩, fun k2 => ⟨rfl, ?_⟩⟩, fun k1 => ⟨rfl, ?_⟩⟩, rfl, rfl⟩
  · have k1 := of_decide_eq_true k1; have k2 := of_decide_eq_true k2
    apply decide_eq_decide.2; omega
  · have k2 := of_decide_eq_false k2
    exact decide_eq_false (by omega)
  · have k1 := of_decide_eq_false k1
    exact decide_eq_false (by omega)

/-- turnoutref20.right -/
theorem rRight_c (D : RefAt rI h B d σ) (H : Hd) (ok0 : -9223372036854775808 ≤ H.ls) : CallsH Tryz.prog 73 #[vP d, .agg (hdV H).toArray] h fun e h' => Ext h h' ∧ e = .returned (.bool (rightH σ.safe.length H)) := by
  refine V73 _ _ _ _ _ _ h _ ?_
  intro a h1 ha e1
  have x1 : Ext h h1 := by rw [e1]; exact Ext.push _ _
  have ca : h1[a]? = some (.cells (hdV H).toArray 39) := by rw [e1, ha]; exact push_last
  clear e1
  have la := (Array.getElem?_eq_some_iff.1 ca).1
  refine ⟨fun l hq => hq = h1 ∧ (H.slot = 0 ∨ H.slot = 1) ∧ isNum H.gen = true ∧ isNum H.ep = true, ⟨decide (¬ ((H.slot = 0 ∨ H.slot = 1) ∧ isNum H.gen = true ∧ isNum H.ep = true)), ⟨_, cellsAt_one (cellH_at ca), fun k => ⟨rfl, ?_⟩, fun k0 => ⟨_, cellsAt_one (cellH_at ca), fun k => ⟨rfl, ?_⟩, fun k1 => ⟨_, cellsAt_one (cellH_at ca), fun k => ⟨rfl, ?_⟩, fun k2 => ⟨_, cellsAt_one (cellH_at ca), fun k => ⟨rfl, ?_⟩, fun k3 => ⟨_, cellsAt_one (cellH_at ca), fun k => ⟨rfl, ?_⟩, fun k4 => ⟨_, cellsAt_one (cellH_at ca), rfl, ?_⟩⟩⟩⟩⟩⟩, fun hB => ?_, fun hB => ?_⟩, ?_⟩
  · have k : H.slot < 0 := of_decide_eq_true k
    exact decide_eq_true fun hh => by omega
  · have k : 1 < H.slot := of_decide_eq_true k
    exact decide_eq_true fun hh => by omega
  · have k : (H.gen : Int) < 1 := of_decide_eq_true k
    exact decide_eq_true fun hh => by have : 1 ≤ H.gen ∧ _ := of_decide_eq_true hh.2.1; omega
  · have k : (9223372036854775807 : Int) < (H.gen : Int) := of_decide_eq_true k
    exact decide_eq_true fun hh => by have : 1 ≤ H.gen ∧ H.gen ≤ 9223372036854775807 := of_decide_eq_true hh.2.1; omega
  · have k : (H.ep : Int) < 1 := of_decide_eq_true k
    exact decide_eq_true fun hh => by have : 1 ≤ H.ep ∧ _ := of_decide_eq_true hh.2.2; omega
  · have k0 : ¬ H.slot < 0 := of_decide_eq_false k0
    have k1 : ¬ 1 < H.slot := of_decide_eq_false k1
    have k2 : ¬ (H.gen : Int) < 1 := of_decide_eq_false k2
    have k3 : ¬ (9223372036854775807 : Int) < (H.gen : Int) := of_decide_eq_false k3
    have k4 : ¬ (H.ep : Int) < 1 := of_decide_eq_false k4
    have hg : isNum H.gen = true := decide_eq_true (by omega)
    apply decide_eq_decide.2
    constructor
    · intro hh
      refine Classical.byContradiction fun hle => hh ⟨by omega, hg, decide_eq_true (by omega)⟩
    · intro hlt hh
      have : 1 ≤ H.ep ∧ H.ep ≤ 9223372036854775807 := of_decide_eq_true hh.2.2
      omega
  · have hB := of_decide_eq_true hB
    have e1 : rightH σ.safe.length H = false := by
      unfold rightH rightB
      exact decide_eq_false fun hh => hB hh.2.2
    rw [e1]
    exact ⟨x1, rfl⟩
  · have hB := of_decide_eq_false hB
    exact ⟨rfl, Decidable.of_not_not hB⟩
  rintro h1' ⟨rfl, hnum⟩
  obtain ⟨L, hL⟩ : ∃ L, L = layF (σ.safe.length : Int) H.ls := ⟨_, rfl⟩
  have C : ∀ h' : Hp, h'[a]? = some (.cells (hdV H).toArray 39) → cellsAt h' a ((0 + 3) + 0) [vZ H.ls] := fun h' c => cellsAt_one (cellH_at c)
  have fin : ∀ (hq : Hp) (b : Nat), Ext h1' hq → hq[b]? = some (.cells (lyV (0, 0)).toArray 37) → a < b →
      (List.length (lyV L.1) = 2 ∧ (∀ c ∈ lyV L.1, c.oneCell' = true) ∧ wrAt hq b 0 2 ∧ ∀ hp_4, hp_4 = setsH hq b 0 (lyV L.1) → hp_4[a]? = some (.cells (hdV H).toArray 39) ∧
        ∃ B_1 : Bool, ((((decide (L.2 = (0 : Int))) = true →
          ∃ x47f0_ : Int, ∃ x47f1_ : Int, cellsAt hp_4 b 0 [vZ x47f0_, vZ x47f1_] ∧ ∃ x49f0_ : Int, ∃ x49f1_ : Int, cellsAt hp_4 a (0 + 3) [vZ x49f0_, vZ x49f1_] ∧
          ∃ x50_, EqV Tryz.prog 37 (Value.agg #[vZ x47f0_, vZ x47f1_]) (Value.agg #[vZ x49f0_, vZ x49f1_]) x50_ ∧ hp_4 = hp_4 ∧ B_1 = x50_) ∧
        ((decide (L.2 = (0 : Int))) = false → hp_4 = hp_4 ∧ B_1 = false))) ∧ Ext h hp_4 ∧ Ending.returned (.bool B_1) = .returned (.bool (rightH σ.safe.length H))) := by
    intro hq b xq cb hab
    obtain ⟨q1, q2, q3, q4⟩ := ly_set cb L.1
    refine ⟨rfl, q2, q3, fun h4 e4 => ?_⟩
    have ca4 : h4[a]? = some (.cells (hdV H).toArray 39) := by rw [e4]; exact (setsH_ne (by omega)).trans ((xq.old a la).trans ca)
    have cb4 : h4[b]? = some (.cells (lyV L.1).toArray 37) := by rw [e4]; exact q4
    have x4 : Ext h h4 := by rw [e4]; exact (x1.trans xq).over (setsH_same (B := fun x => x = b) rfl) fun x hx => by omega
    refine ⟨ca4, decide (L.2 = 0 ∧ L.1 = (H.ls, H.ll)), ⟨fun k => ⟨_, _, cellsAt_all (vs := lyV L.1) cb4, H.ls, H.ll, hd_lay ca4, _, eqv_lay L.1 (H.ls, H.ll), rfl, ?_⟩, fun k => ⟨rfl, ?_⟩⟩, x4, ?_⟩
    · have k := of_decide_eq_true k
      simp [k]
    · have k := of_decide_eq_false k
      exact decide_eq_false fun hh => k hh.1
    · congr 2
      unfold rightH rightB
      rw [← hL]
      apply decide_eq_decide.2
      exact ⟨fun hh => ⟨hh.1, hh.2, hnum⟩, fun hh => ⟨hh.1, hh.2.1⟩⟩
  refine ⟨⟨fun h' => h'[a]? = some (.cells (hdV H).toArray 39), ca, (rSize_c (D.ext x1)).mono ?_⟩, ⟨fun h' => h'[a]? = some (.cells (hdV H).toArray 39), ca, ?_⟩, ⟨fun h' => h'[a]? = some (.cells (hdV H).toArray 39), ca, (rSize_c (D.ext x1)).mono ?_⟩⟩
  · rintro e h2 ⟨rfl, rfl⟩
    refine ⟨_, rfl, ca, _, C, (refLay_c _ H.ls ok0 _).mono ?_⟩
    rintro e h3 ⟨x3, rfl⟩
    rw [← hL]
    refine ⟨_, _, _, rfl, (x3.old a la).trans ca, ?_⟩
    intro b h4 hb e4
    have x4 : Ext h3 h4 := by rw [e4]; exact Ext.push _ _
    have cb : h4[b]? = some (.cells (lyV (0, 0)).toArray 37) := by rw [e4, hb, zerosLay]; exact push_last
    have s3 := x3.size
    exact ⟨infoLay, ((x3.trans x4).old a la).trans ca, fin h4 b (x3.trans x4) cb (by omega)⟩
  · intro b h4 hb e4
    have x4 : Ext h1' h4 := by rw [e4]; exact Ext.push _ _
    have cb : h4[b]? = some (.cells (lyV (0, 0)).toArray 37) := by rw [e4, hb, zerosLay]; exact push_last
    refine ⟨infoLay, (x4.old a la).trans ca, (rSize_c (D.ext (x1.trans x4))).mono ?_⟩
    rintro e h2 ⟨rfl, rfl⟩
    refine ⟨_, rfl, (x4.old a la).trans ca, _, C, (refLay_c _ H.ls ok0 _).mono ?_⟩
    rintro e h3 ⟨x3, rfl⟩
    rw [← hL]
    exact ⟨_, _, _, rfl, ((x4.trans x3).old a la).trans ca, fin h3 b (x4.trans x3) ((x3.old b (Array.getElem?_eq_some_iff.1 cb).1).trans cb) (by omega)⟩
  · rintro e h2 ⟨rfl, rfl⟩
    refine ⟨_, rfl, ca, _, C, ?_⟩
    intro b h4 hb e4
    have x4 : Ext h2 h4 := by rw [e4]; exact Ext.push _ _
    have cb : h4[b]? = some (.cells (lyV (0, 0)).toArray 37) := by rw [e4, hb, zerosLay]; exact push_last
    refine ⟨infoLay, (x4.old a la).trans ca, (refLay_c _ H.ls ok0 _).mono ?_⟩
    rintro e h3 ⟨x3, rfl⟩
    rw [← hL]
    exact ⟨_, _, _, rfl, ((x4.trans x3).old a la).trans ca, fin h3 b (x4.trans x3) ((x3.old b (Array.getElem?_eq_some_iff.1 cb).1).trans cb) (by omega)⟩

end

end Go.Vc

/- The document's checkpoints: which heads can be taken; Heads, Find. -/
namespace Go.Vc
open Go Go.Proofs Go.MapKept

def TakeTail (R : Ending → Hp → Prop) (d_ : Option Addr) (x58r1_ : Int) (b_0 b_2 b_3 : Nat) (hp_18 : Hp) : Prop :=
        (((decide (x58r1_ = (0 : Int))) = true →
          ∃ x86f0_ : Int, ∃ x86f1_ : Int, ∃ x86f2_ : Int, ∃ x86f3_ : Int, ∃ x86f4_ : Int, cellsAt hp_18 b_3 (0 + 0) [(Value.int .i64 x86f0_), (Value.int .u64 x86f1_), (Value.int .u64 x86f2_), (Value.int .i64 x86f3_), (Value.int .i64 x86f4_)] ∧
          CallsH Tryz.prog 73 #[(Value.pointer d_), (Value.agg #[(Value.int .i64 x86f0_), (Value.int .u64 x86f1_), (Value.int .u64 x86f2_), (Value.int .i64 x86f3_), (Value.int .i64 x86f4_)])] hp_18 fun en_8 hp_19 =>
          ∃ x87_ : Bool, en_8 = .returned (Value.bool x87_) ∧
          ((x87_ = true →
            ∃ x91_ : Int, cellsAt hp_19 b_3 (0 + 5) [(Value.int .i64 x91_)] ∧
            ∃ x93_ : Int, cellsAt hp_19 b_2 (0 + 0) [(Value.int .i64 x93_)] ∧
            CallsH Tryz.prog 74 #[(Value.int .i64 x91_), (Value.int .i64 x93_)] hp_19 fun en_9 hp_20 =>
            ∃ x94_ : Bool, en_9 = .returned (Value.bool x94_) ∧
            ∃ x96f0_ : Int, ∃ x96f1_ : Int, ∃ x96f2_ : Int, ∃ x96f3_ : Int, ∃ x96f4_ : Int, ∃ x96f5_ : Int, ∃ x96f6_ : Int, cellsAt hp_20 b_3 0 [(Value.int .i64 x96f0_), (Value.int .u64 x96f1_), (Value.int .u64 x96f2_), (Value.int .i64 x96f3_), (Value.int .i64 x96f4_), (Value.int .i64 x96f5_), (Value.int .u32 x96f6_)] ∧
            List.length [(Value.int .i64 x96f0_), (Value.int .u64 x96f1_), (Value.int .u64 x96f2_), (Value.int .i64 x96f3_), (Value.int .i64 x96f4_), (Value.int .i64 x96f5_), (Value.int .u32 x96f6_)] = 7 ∧ (∀ c ∈ [(Value.int .i64 x96f0_), (Value.int .u64 x96f1_), (Value.int .u64 x96f2_), (Value.int .i64 x96f3_), (Value.int .i64 x96f4_), (Value.int .i64 x96f5_), (Value.int .u32 x96f6_)], c.oneCell' = true) ∧ wrAt hp_20 b_0 0 7 ∧ ∀ hp_21, hp_21 = setsH hp_20 b_0 0 [(Value.int .i64 x96f0_), (Value.int .u64 x96f1_), (Value.int .u64 x96f2_), (Value.int .i64 x96f3_), (Value.int .i64 x96f4_), (Value.int .i64 x96f5_), (Value.int .u32 x96f6_)] →
            ∃ resf0_3 : Int, ∃ resf1_3 : Int, ∃ resf2_3 : Int, ∃ resf3_3 : Int, ∃ resf4_3 : Int, ∃ resf5_3 : Int, ∃ resf6_3 : Int, cellsAt hp_21 b_0 0 [(Value.int .i64 resf0_3), (Value.int .u64 resf1_3), (Value.int .u64 resf2_3), (Value.int .i64 resf3_3), (Value.int .i64 resf4_3), (Value.int .i64 resf5_3), (Value.int .u32 resf6_3)] ∧
            R (.returned (Value.tuple #[(Value.agg #[(Value.int .i64 resf0_3), (Value.int .u64 resf1_3), (Value.int .u64 resf2_3), (Value.int .i64 resf3_3), (Value.int .i64 resf4_3), (Value.int .i64 resf5_3), (Value.int .u32 resf6_3)]), (Value.bool x94_), (Value.int .i64 (0 : Int))])) hp_21) ∧
           (x87_ = false →
            ∃ x96f0_1 : Int, ∃ x96f1_1 : Int, ∃ x96f2_1 : Int, ∃ x96f3_1 : Int, ∃ x96f4_1 : Int, ∃ x96f5_1 : Int, ∃ x96f6_1 : Int, cellsAt hp_19 b_3 0 [(Value.int .i64 x96f0_1), (Value.int .u64 x96f1_1), (Value.int .u64 x96f2_1), (Value.int .i64 x96f3_1), (Value.int .i64 x96f4_1), (Value.int .i64 x96f5_1), (Value.int .u32 x96f6_1)] ∧
            List.length [(Value.int .i64 x96f0_1), (Value.int .u64 x96f1_1), (Value.int .u64 x96f2_1), (Value.int .i64 x96f3_1), (Value.int .i64 x96f4_1), (Value.int .i64 x96f5_1), (Value.int .u32 x96f6_1)] = 7 ∧ (∀ c ∈ [(Value.int .i64 x96f0_1), (Value.int .u64 x96f1_1), (Value.int .u64 x96f2_1), (Value.int .i64 x96f3_1), (Value.int .i64 x96f4_1), (Value.int .i64 x96f5_1), (Value.int .u32 x96f6_1)], c.oneCell' = true) ∧ wrAt hp_19 b_0 0 7 ∧ ∀ hp_22, hp_22 = setsH hp_19 b_0 0 [(Value.int .i64 x96f0_1), (Value.int .u64 x96f1_1), (Value.int .u64 x96f2_1), (Value.int .i64 x96f3_1), (Value.int .i64 x96f4_1), (Value.int .i64 x96f5_1), (Value.int .u32 x96f6_1)] →
            ∃ resf0_4 : Int, ∃ resf1_4 : Int, ∃ resf2_4 : Int, ∃ resf3_4 : Int, ∃ resf4_4 : Int, ∃ resf5_4 : Int, ∃ resf6_4 : Int, cellsAt hp_22 b_0 0 [(Value.int .i64 resf0_4), (Value.int .u64 resf1_4), (Value.int .u64 resf2_4), (Value.int .i64 resf3_4), (Value.int .i64 resf4_4), (Value.int .i64 resf5_4), (Value.int .u32 resf6_4)] ∧
            R (.returned (Value.tuple #[(Value.agg #[(Value.int .i64 resf0_4), (Value.int .u64 resf1_4), (Value.int .u64 resf2_4), (Value.int .i64 resf3_4), (Value.int .i64 resf4_4), (Value.int .i64 resf5_4), (Value.int .u32 resf6_4)]), (Value.bool false), (Value.int .i64 (0 : Int))])) hp_22))) ∧
         ((decide (x58r1_ = (0 : Int))) = false →
          ∃ x96f0_2 : Int, ∃ x96f1_2 : Int, ∃ x96f2_2 : Int, ∃ x96f3_2 : Int, ∃ x96f4_2 : Int, ∃ x96f5_2 : Int, ∃ x96f6_2 : Int, cellsAt hp_18 b_3 0 [(Value.int .i64 x96f0_2), (Value.int .u64 x96f1_2), (Value.int .u64 x96f2_2), (Value.int .i64 x96f3_2), (Value.int .i64 x96f4_2), (Value.int .i64 x96f5_2), (Value.int .u32 x96f6_2)] ∧
          List.length [(Value.int .i64 x96f0_2), (Value.int .u64 x96f1_2), (Value.int .u64 x96f2_2), (Value.int .i64 x96f3_2), (Value.int .i64 x96f4_2), (Value.int .i64 x96f5_2), (Value.int .u32 x96f6_2)] = 7 ∧ (∀ c ∈ [(Value.int .i64 x96f0_2), (Value.int .u64 x96f1_2), (Value.int .u64 x96f2_2), (Value.int .i64 x96f3_2), (Value.int .i64 x96f4_2), (Value.int .i64 x96f5_2), (Value.int .u32 x96f6_2)], c.oneCell' = true) ∧ wrAt hp_18 b_0 0 7 ∧ ∀ hp_23, hp_23 = setsH hp_18 b_0 0 [(Value.int .i64 x96f0_2), (Value.int .u64 x96f1_2), (Value.int .u64 x96f2_2), (Value.int .i64 x96f3_2), (Value.int .i64 x96f4_2), (Value.int .i64 x96f5_2), (Value.int .u32 x96f6_2)] →
          ∃ resf0_5 : Int, ∃ resf1_5 : Int, ∃ resf2_5 : Int, ∃ resf3_5 : Int, ∃ resf4_5 : Int, ∃ resf5_5 : Int, ∃ resf6_5 : Int, cellsAt hp_23 b_0 0 [(Value.int .i64 resf0_5), (Value.int .u64 resf1_5), (Value.int .u64 resf2_5), (Value.int .i64 resf3_5), (Value.int .i64 resf4_5), (Value.int .i64 resf5_5), (Value.int .u32 resf6_5)] ∧
          R (.returned (Value.tuple #[(Value.agg #[(Value.int .i64 resf0_5), (Value.int .u64 resf1_5), (Value.int .u64 resf2_5), (Value.int .i64 resf3_5), (Value.int .i64 resf4_5), (Value.int .i64 resf5_5), (Value.int .u32 resf6_5)]), (Value.bool false), (Value.int .i64 (0 : Int))])) hp_23))

theorem rzerosTk : zeros Tryz.prog 114 = (tkV Tk.no).toArray := by kernel_rfl
theorem rinfoTk : ∃ i z, Tryz.prog.info? 114 = some i ∧ i.zero = some z := by
  have : ((Tryz.prog.info? 114).bind (·.zero)).isSome = true := by kernel_rfl
  obtain ⟨z, hz⟩ := Option.isSome_iff_exists.1 this
  obtain ⟨i, hi, hz⟩ := Option.bind_eq_some_iff.1 hz
  exact ⟨i, z, hi, hz⟩
theorem rrowTk : RowT Tryz.prog 110 114 7 56 := RowT.of (by kernel_rfl)
theorem rtk_new {h : Hp} (g : Tk) {K : Nat → Hp → Prop} (hK : ∀ b h2, b = h.size → Ext h h2 → h2[b]? = some (.cells (tkV g).toArray 114) → K b h2) :
    ∀ b hp, b = Array.size h → hp = Array.push h (.cells (zeros Tryz.prog 114) 114) → (∃ i z, Tryz.prog.info? 114 = some i ∧ i.zero = some z) ∧ List.length (tkV g) = 7 ∧ (∀ c ∈ tkV g, c.oneCell' = true) ∧ wrAt hp b 0 7 ∧ ∀ h2, h2 = setsH hp b 0 (tkV g) → K b h2 := by
  intro b hp hb e
  have x : Ext h hp := by rw [e]; exact Ext.push _ _
  have c : hp[b]? = some (.cells (tkV Tk.no).toArray 114) := by rw [e, hb, rzerosTk]; exact push_last
  obtain ⟨q1, q2, q3, q4⟩ := tk_set c g
  refine ⟨rinfoTk, q1, q2, q3, fun h2 e2 => hK b h2 hb ?_ (by rw [e2]; exact q4)⟩
  rw [e2]
  exact x.over (setsH_same (B := fun x => x = b) rfl) fun x hx => by omega

theorem ext_num {s : ByteArray} {i j : Nat} : numL (bl (s.extract i j)) = numL (((bl s).drop i).take (j - i)) := by rw [bl_extract]

theorem take_zero_on {σ : DS} (h : (takeF σ 0).2.2 = 0) : σ.gone = false := by
  cases hg : σ.gone with
  | false => rfl
  | true =>
    have ha : σ.asked 0 = 40 := by unfold DS.asked; rw [if_pos hg]
    have hrd : σ.read 0 = (σ, ByteArray.empty, 40) := by unfold DS.read; rw [ha, if_neg (by decide)]
    have : getF σ 0 = (Frm.no, 40) := by unfold getF; rw [hrd, if_pos (by show (40 : Int) ≠ 0; decide)]
    unfold takeF at h
    rw [this, if_pos rfl] at h
    exact absurd (show (40 : Int) = 0 from h) (by decide)

section
variable {h : Hp} {B : Nat → Prop} {d : Nat} {σ : DS}

set_option maxHeartbeats 1000000 in
/-- turnoutref20.take -/
theorem rTake_c (D : RefAt rI h B d σ) (slot : Int) (hs0 : 0 ≤ slot) (hon : σ.gone = false ∨ slot < σ.safe.length) : CallsH Tryz.prog 80 #[vP d, vZ slot] h fun e h' =>
    Same B h h' ∧ RefAt rI h' B d (σ.read slot).1 ∧ e = .returned (.tuple #[.agg (tkV (takeF σ slot).1).toArray, .bool (takeF σ slot).2.1, vZ (takeF σ slot).2.2]) := by
  refine V80 _ _ h _ ?_
  intro b g1 hb e1
  have x1 : Ext h g1 := by rw [e1]; exact Ext.push _ _
  have cb1 : g1[b]? = some (.cells (tkV Tk.no).toArray 114) := by rw [e1, hb, rzerosTk]; exact push_last
  clear e1
  have lb1 := (Array.getElem?_eq_some_iff.1 cb1).1
  have hbB : ¬ B b := fun hx => by have := D.lt _ hx; omega
  -- the end: the result is set
  have fin : ∀ (g0 : Hp) (τ : DS), Same B h g0 → RefAt rI g0 B d τ → g0[b]? = some (.cells (tkV Tk.no).toArray 114) → (σ.read slot).1 = τ → ∀ (t : Tk) (ok : Bool) (code : Int) (gq gr : Hp), Ext g0 gq → takeF σ slot = (t, ok, code) → gr = setsH gq b 0 (tkV t) →
      ∃ f0 f1 f2 f3 f4 f5 f6 : Int, cellsAt gr b 0 [vZ f0, .int .u64 f1, .int .u64 f2, vZ f3, vZ f4, vZ f5, .int .u32 f6] ∧
        (Same B h gr ∧ RefAt rI gr B d (σ.read slot).1 ∧ Ending.returned (.tuple #[.agg #[vZ f0, .int .u64 f1, .int .u64 f2, vZ f3, vZ f4, vZ f5, .int .u32 f6], .bool ok, vZ code]) = .returned (.tuple #[.agg (tkV (takeF σ slot).1).toArray, .bool (takeF σ slot).2.1, vZ (takeF σ slot).2.2])) := by
    intro g0 τ y0 D0 c0 hτ t ok code gq gr x et er
    have cq := (x.old b (Array.getElem?_eq_some_iff.1 c0).1).trans c0
    have cr := (tk_set cq t).2.2.2
    rw [← er] at cr
    have ys : Same (fun x => x = b) gq gr := by rw [er]; exact setsH_same rfl
    refine ⟨_, _, _, _, _, _, _, cellsAt_all (vs := tkV t) cr, (y0.trans (x.same B) fun _ h _ => h).trans ys fun x hx hl => by omega, ?_, by rw [et]; rfl⟩
    rw [hτ]
    exact (D0.ext x).other ys fun x hx e => hbB (e ▸ hx)
  have one : ∀ t : Tk, ∀ v ∈ tkV t, v.oneCell' = true := fun t => by simp [tkV, Value.oneCell']
  refine ⟨rinfoTk, (rSize_c (D.ext x1)).mono ?_⟩
  rintro e g1' ⟨rfl, rfl⟩
  refine ⟨_, rfl, fun hge => ?_, fun hlt => ?_⟩
  · have hge : (σ.safe.length : Int) ≤ slot := of_decide_eq_true hge
    have hg : σ.gone = false := hon.resolve_right (by omega)
    have ha : σ.asked slot = 41 := by unfold DS.asked; rw [hg, if_neg (by simp), if_pos (by omega)]
    have hrd : σ.read slot = (σ, ByteArray.empty, 41) := by unfold DS.read; rw [ha, if_neg (by decide)]
    have hget : getF σ slot = (Frm.no, 41) := by unfold getF; rw [hrd, if_pos (by show (41 : Int) ≠ 0; decide)]
    refine ⟨rfl, one Tk.no, (tk_set cb1 Tk.no).2.2.1, fun gr er => ?_⟩
    exact fin _ σ (x1.same B) (D.ext x1) cb1 (by rw [hrd]) Tk.no false 0 _ gr (Ext.refl _) (by unfold takeF; rw [hget, if_neg (by decide), if_pos (.inl (by show (41 : Int) ≠ 0; decide))]) er
  have hlt : slot < (σ.safe.length : Int) := by have := of_decide_eq_false hlt; omega
  refine (rGet_c (D.ext x1) slot).mono ?_
  rintro e g2 ⟨y2, D2, rfl⟩
  obtain ⟨f, hf⟩ : ∃ f, f = (getF σ slot).1 := ⟨_, rfl⟩
  obtain ⟨c, hc⟩ : ∃ c, c = (getF σ slot).2 := ⟨_, rfl⟩
  rw [← hf, ← hc]
  refine ⟨_, _, _, _, _, rfl, frm_new f fun b1 g4 hb1 x4 cf => ?_⟩
  have l1 := x1.size
  have l2 := y2.size
  have cb4 : g4[b]? = some (.cells (tkV Tk.no).toArray 114) := (x4.old b (by omega)).trans ((y2.old b lb1 hbB).trans cb1)
  have y04 : Same B h g4 := ((x1.same B).trans y2 fun _ h _ => h).trans (x4.same B) fun _ h _ => h
  have D4 := D2.ext x4
  have fin := fin g4 _ y04 D4 cb4 rfl
  have wr : ∀ (gq : Hp), Ext g4 gq → wrAt gq b 0 7 := fun gq x => (tk_set ((x.old b (Array.getElem?_eq_some_iff.1 cb4).1).trans cb4) Tk.no).2.2.1
  refine ⟨fun h40 => ?_, fun h40 => ?_⟩
  · have h40 : c = 40 := of_decide_eq_true h40
    refine ⟨rfl, one Tk.no, wr _ (Ext.refl _), fun gr er => ?_⟩
    rw [h40]
    exact fin Tk.no false 40 g4 gr (Ext.refl _) (by unfold takeF; rw [← hc, if_pos h40]) er
  have h40 : ¬ c = 40 := of_decide_eq_false h40
  refine ⟨fun l hq => hq = g4 ∧ c = 0 ∧ f.isHead slot, ⟨decide (c ≠ 0 ∨ ¬ f.isHead slot), ⟨fun k => ⟨rfl, ?_⟩, fun k => ⟨_, cellsAt_one (cellH_at cf), fun k1 => ⟨rfl, ?_⟩, fun k1 => ⟨_, cellsAt_one (cellH_at cf), fun k2 => ⟨rfl, ?_⟩, fun k2 => ⟨_, cellsAt_one (cellH_at cf), rfl, ?_⟩⟩⟩⟩, fun hB => ?_, fun hB => ?_⟩, ?_⟩
  · exact decide_eq_true (p := c ≠ 0 ∨ ¬ f.isHead slot) (.inl (of_decide_eq_true k))
  · have k1 : f.kind ≠ 1 := of_decide_eq_true k1
    exact decide_eq_true (p := c ≠ 0 ∨ ¬ f.isHead slot) (.inr fun hh => k1 hh.1)
  · have k2 : f.index ≠ slot := of_decide_eq_true k2
    exact decide_eq_true (p := c ≠ 0 ∨ ¬ f.isHead slot) (.inr fun hh => k2 hh.2.1)
  · have k : ¬ c ≠ 0 := of_decide_eq_false k
    have k1 : ¬ f.kind ≠ 1 := of_decide_eq_false k1
    have k2 : ¬ f.index ≠ slot := of_decide_eq_false k2
    apply decide_eq_decide.2
    constructor
    · rintro (hh | hh)
      · exact (k hh).elim
      · intro h20
        exact hh ⟨by omega, by omega, by omega⟩
    · intro hh
      exact .inr fun h3 => hh (by have := h3.2.2; omega)
  · have hB := of_decide_eq_true hB
    refine ⟨rfl, one Tk.no, wr _ (Ext.refl _), fun gr er => ?_⟩
    exact fin Tk.no false 0 g4 gr (Ext.refl _) (by unfold takeF; rw [← hc, ← hf, if_neg h40, if_pos hB]) er
  · have hB := of_decide_eq_false hB
    exact ⟨rfl, by omega, Decidable.of_not_not fun hh => hB (.inr hh)⟩
  rintro g4' ⟨rfl, hc0, hhd⟩
  have hsz := hhd.2.2
  obtain ⟨L, hL⟩ : ∃ L, L = bl f.body := ⟨_, rfl⟩
  have hLl : L.length = 20 := by rw [hL, bl_length, hsz]
  have hn : (σ.read slot).1.safe.length = σ.safe.length := by rw [read_safe]
  have htk : takeF σ slot = (tkL σ.safe.length slot f.number L, tkOk σ.safe.length L (tkL σ.safe.length slot f.number L), 0) := by
    unfold takeF
    rw [← hc, ← hf, if_neg h40, if_neg (by rintro (h | h); exact h hc0; exact h hhd), ← hL]
  obtain ⟨t, ht⟩ : ∃ t, t = tkL σ.safe.length slot f.number L := ⟨_, rfl⟩
  rw [← ht] at htk
  have hs4 : ∀ j, numL ((L.drop j).take 4) < 4294967296 := fun j => numL_small (k := 4) (by rw [List.length_take]; omega)
  have e4 : ∀ i, i ≤ 16 → (f.body.extract i (i + 4)).size ≤ 8 := fun i hi => by rw [ByteArray.size_extract]; omega
  refine ⟨_, cellsAt_one (cellH_at cf), 8, rfl, 12, rfl, by decide, by omega, _, rfl, (rSaid_c (f.body.extract 8 12) (e4 8 (by decide)) g4').mono ?_⟩
  rintro e g5 ⟨rfl, rfl⟩
  rw [ext_num, ← hL, show 12 - 8 = 4 from rfl]
  obtain ⟨n8, hn8⟩ : ∃ n8, n8 = numL ((L.drop 8).take 4) := ⟨_, rfl⟩
  have k8 : n8 < 4294967296 := by rw [hn8]; exact hs4 _
  rw [← hn8]
  refine ⟨_, rfl, (rSize_c D4).mono ?_⟩
  rintro e g6 ⟨rfl, rfl⟩
  rw [hn]
  refine ⟨_, rfl, (n8 : Int), wrapI64 (by omega) (by omega), (refLay_c _ (n8 : Int) (by omega) _).mono ?_⟩
  rintro e g8 ⟨x8, rfl⟩
  obtain ⟨ly, hly⟩ : ∃ ly, ly = layF (σ.safe.length : Int) (n8 : Int) := ⟨_, rfl⟩
  rw [← hly]
  refine ⟨_, _, _, rfl, ly_new ly.1 fun b2 g10 hb2 x10 c10 => ?_⟩
  have x410 := x8.trans x10
  have cf10 := (x410.old b1 (Array.getElem?_eq_some_iff.1 cf).1).trans cf
  obtain ⟨ep, hep⟩ : ∃ ep, ep = numL (L.take 8) := ⟨_, rfl⟩
  obtain ⟨sz, hsz'⟩ : ∃ sz, sz = numL ((L.drop 12).take 4) := ⟨_, rfl⟩
  obtain ⟨sm, hsm⟩ : ∃ sm, sm = numL ((L.drop 16).take 4) := ⟨_, rfl⟩
  have ksz : sz < 4294967296 := by rw [hsz']; exact hs4 _
  have ksm : sm < 4294967296 := by rw [hsm]; exact hs4 _
  have et : t = ⟨⟨slot, f.number, ep, ly.1.1, ly.1.2⟩, sz, sm⟩ := by rw [ht, hep, hsz', hsm, hly, hn8]; rfl
  have hok : tkOk σ.safe.length L t = decide (ly.2 = 0 ∧ rightH σ.safe.length t.h = true ∧ 1 ≤ t.size ∧ (t.size : Int) ≤ mostH t.h) := by
    unfold tkOk
    rw [hly, hn8]
  have hls : -9223372036854775808 ≤ t.h.ls := by
    have : t.h.ls = ly.1.1 := by rw [et]
    rw [this, hly]
    unfold layF
    split
    · decide
    · split
      · decide
      · show _ ≤ (n8 : Int); omega
  have s0 : ∀ g : Hp, CallsH Tryz.prog _ #[.string (f.body.extract 0 8)] g fun e h' => h' = g ∧ e = .returned (vU ep) := fun g => by
    have := rSaid_c (f.body.extract 0 8) (by rw [ByteArray.size_extract]; omega) g
    rw [ext_num, ← hL, List.drop_zero, Nat.sub_zero, ← hep] at this
    exact this
  have s1 : ∀ g : Hp, CallsH Tryz.prog _ #[.string (f.body.extract 12 16)] g fun e h' => h' = g ∧ e = .returned (vU sz) := fun g => by
    have := rSaid_c (f.body.extract 12 16) (e4 12 (by decide)) g
    rw [ext_num, ← hL, show 16 - 12 = 4 from rfl, ← hsz'] at this
    exact this
  have s2 : ∀ g : Hp, CallsH Tryz.prog _ #[.string (f.body.extract 16 20)] g fun e h' => h' = g ∧ e = .returned (vU sm) := fun g => by
    have := rSaid_c (f.body.extract 16 20) (e4 16 (by decide)) g
    rw [ext_num, ← hL, show 20 - 16 = 4 from rfl, ← hsm] at this
    exact this
  -- the tail
  have tail : ∀ (g16 : Hp) (b3 : Nat), Ext g10 g16 → g16[b3]? = some (.cells (tkV t).toArray 114) → TakeTail (fun e h' => Same B h h' ∧ RefAt rI h' B d (σ.read slot).1 ∧ e = .returned (.tuple #[.agg (tkV (takeF σ slot).1).toArray, .bool (takeF σ slot).2.1, vZ (takeF σ slot).2.2])) (some ⟨d, 0, none⟩) ly.2 b b2 b3 g16 := by
    intro g16 b3 x16 c16
    have x416 := x410.trans x16
    have cv : ∀ {gq : Hp}, Ext g16 gq → gq[b3]? = some (.cells (tkV t).toArray 114) := fun x => (x.old b3 (Array.getElem?_eq_some_iff.1 c16).1).trans c16
    have cl : ∀ {gq : Hp}, Ext g16 gq → gq[b2]? = some (.cells (lyV ly.1).toArray 37) := fun x => ((x16.trans x).old b2 (Array.getElem?_eq_some_iff.1 c10).1).trans c10
    have done : ∀ (gq : Hp), Ext g16 gq → (ok : Bool) → tkOk σ.safe.length L t = ok →
        ∃ f0 f1 f2 f3 f4 f5 f6 : Int, cellsAt gq b3 0 [vZ f0, .int .u64 f1, .int .u64 f2, vZ f3, vZ f4, vZ f5, .int .u32 f6] ∧ List.length [vZ f0, .int .u64 f1, .int .u64 f2, vZ f3, vZ f4, vZ f5, .int .u32 f6] = 7 ∧
          (∀ c ∈ [vZ f0, .int .u64 f1, .int .u64 f2, vZ f3, vZ f4, vZ f5, .int .u32 f6], c.oneCell' = true) ∧ wrAt gq b 0 7 ∧ ∀ gr, gr = setsH gq b 0 [vZ f0, .int .u64 f1, .int .u64 f2, vZ f3, vZ f4, vZ f5, .int .u32 f6] →
          ∃ f0 f1 f2 f3 f4 f5 f6 : Int, cellsAt gr b 0 [vZ f0, .int .u64 f1, .int .u64 f2, vZ f3, vZ f4, vZ f5, .int .u32 f6] ∧
          (Same B h gr ∧ RefAt rI gr B d (σ.read slot).1 ∧ Ending.returned (.tuple #[.agg #[vZ f0, .int .u64 f1, .int .u64 f2, vZ f3, vZ f4, vZ f5, .int .u32 f6], .bool ok, vZ 0]) = .returned (.tuple #[.agg (tkV (takeF σ slot).1).toArray, .bool (takeF σ slot).2.1, vZ (takeF σ slot).2.2])) := by
      intro gq x ok hk
      exact ⟨_, _, _, _, _, _, _, cellsAt_all (vs := tkV t) (cv x), rfl, one t, wr gq (x416.trans x), fun gr er => fin t ok 0 gq gr (x416.trans x) (by rw [htk, hk]) er⟩
    refine ⟨fun hl0 => ?_, fun hl0 => ?_⟩
    · have hl0 : ly.2 = 0 := of_decide_eq_true hl0
      refine ⟨_, _, _, _, _, tk_hd c16, (rRight_c (D4.ext x416) t.h hls).mono ?_⟩
      rintro e g17 ⟨x17, rfl⟩
      rw [hn]
      refine ⟨_, rfl, fun hr => ⟨(t.size : Int), cellsAt_one (cellH_at (cv x17)), ly.1.1, cellsAt_one (cellH_at (cl x17)), ?_⟩, fun hr => ?_⟩
      · have hb' := rightH_ok hr
        have e5 : t.h.ls = ly.1.1 := by rw [et]
        refine (rMay_c (t.size : Int) ly.1.1 (by omega) (by omega) g17).mono ?_
        rintro e g18 ⟨rfl, rfl⟩
        refine ⟨_, rfl, done _ x17 _ ?_⟩
        rw [hok]
        apply decide_eq_decide.2
        unfold mostH
        rw [e5]
        exact ⟨fun h => ⟨by omega, h.2.2.2⟩, fun h => ⟨hl0, hr, by omega, h.2⟩⟩
      · exact done g17 x17 false (by rw [hok]; exact decide_eq_false fun h => by rw [h.2.1] at hr; cases hr)
    · have hl0 : ¬ ly.2 = 0 := of_decide_eq_false hl0
      exact done g16 (Ext.refl _) false (by rw [hok]; exact decide_eq_false fun h => hl0 h.1)
  have tv : ∀ v ∈ tkV t, v.oneCell' = true := one t
  let Cv : Hp → Prop := fun h' => h'[b1]? = some (.cells (frmV f).toArray 95) ∧ h'[b2]? = some (.cells (lyV ly.1).toArray 37)
  have cv : ∀ {gq : Hp}, Ext g10 gq → Cv gq := fun x => ⟨(x.old b1 (Array.getElem?_eq_some_iff.1 cf10).1).trans cf10, (x.old b2 (Array.getElem?_eq_some_iff.1 c10).1).trans c10⟩
  have z20 : (20 : Nat) ≤ f.body.size := by omega
  have w1 : IntKind.i64.wrap (sz : Int) = (sz : Int) := wrapI64 (by omega) (by omega)
  have w2 : IntKind.u32.wrap (sm : Int) = (sm : Int) := by rw [wrapU32]; omega
  rw [et] at tail tv
  have make : ∀ (g14 : Hp), Ext g10 g14 → ∀ b3 g15, b3 = Array.size g14 → g15 = Array.push g14 (.cells (zeros Tryz.prog 114) 114) → Ext g10 g15 ∧ g15[b3]? = some (.cells (tkV Tk.no).toArray 114) ∧ g10.size ≤ b3 := by
    intro g14 x14 b3 g15 hb3 e15
    have x15 : Ext g14 g15 := by rw [e15]; exact Ext.push _ _
    exact ⟨x14.trans x15, by rw [e15, hb3, rzerosTk]; exact push_last, by have := x14.size; omega⟩
  have setT : ∀ (g15 : Hp) (b3 : Nat), Ext g10 g15 → g15[b3]? = some (.cells (tkV Tk.no).toArray 114) → g10.size ≤ b3 → wrAt g15 b3 0 7 ∧ ∀ g16, g16 = setsH g15 b3 0 (tkV ⟨⟨slot, f.number, ep, ly.1.1, ly.1.2⟩, sz, sm⟩) → Ext g10 g16 ∧ g16[b3]? = some (.cells (tkV ⟨⟨slot, f.number, ep, ly.1.1, ly.1.2⟩, sz, sm⟩).toArray 114) := by
    intro g15 b3 x15 c15 hb3
    obtain ⟨q1, q2, q3, q4⟩ := tk_set c15 ⟨⟨slot, f.number, ep, ly.1.1, ly.1.2⟩, sz, sm⟩
    refine ⟨q3, fun g16 e16 => ⟨?_, by rw [e16]; exact q4⟩⟩
    rw [e16]
    exact x15.over (setsH_same (B := fun x => x = b3) rfl) fun x hx => by omega
  refine ⟨?_, ?_, ?_, ?_⟩
  · refine ⟨Cv, cv (Ext.refl _), _, fun h' c => cellsAt_one (cellH_at c.1), f.body, fun h' c => cellsAt_one (cellH_at c.1), 8, rfl, Nat.zero_le _, by omega, _, rfl, (s0 g10).mono ?_⟩
    rintro e _ ⟨rfl, rfl⟩
    refine ⟨_, rfl, cv (Ext.refl _), _, _, fun h' c => cellsAt_all (vs := lyV ly.1) c.2, f.body, fun h' c => cellsAt_one (cellH_at c.1), 12, rfl, 16, rfl, by decide, by omega, _, rfl, (s1 _).mono ?_⟩
    rintro e _ ⟨rfl, rfl⟩
    refine ⟨_, rfl, cv (Ext.refl _), _, w1, f.body, fun h' c => cellsAt_one (cellH_at c.1), 16, rfl, 20, rfl, by decide, by omega, _, rfl, (s2 _).mono ?_⟩
    rintro e _ ⟨rfl, rfl⟩
    refine ⟨_, rfl, cv (Ext.refl _), _, w2, ?_⟩
    intro b3 g15 hb3 e15
    obtain ⟨x15, c15, l15⟩ := make _ (Ext.refl _) b3 g15 hb3 e15
    obtain ⟨w3, k3⟩ := setT g15 b3 x15 c15 l15
    refine ⟨rinfoTk, cv x15, rfl, tv, w3, fun g16 e16 => ?_⟩
    obtain ⟨x16, c16⟩ := k3 g16 e16
    exact ⟨cv x16, tail g16 b3 x16 c16⟩
  · refine ⟨Cv, cv (Ext.refl _), _, fun h' c => cellsAt_one (cellH_at c.1), f.body, fun h' c => cellsAt_one (cellH_at c.1), 8, rfl, Nat.zero_le _, by omega, _, rfl, ?_⟩
    intro b3 g15 hb3 e15
    obtain ⟨x15, c15, l15⟩ := make _ (Ext.refl _) b3 g15 hb3 e15
    obtain ⟨w3, k3⟩ := setT g15 b3 x15 c15 l15
    refine ⟨rinfoTk, cv x15, (s0 g15).mono ?_⟩
    rintro e _ ⟨rfl, rfl⟩
    refine ⟨_, rfl, cv x15, _, _, fun h' c => cellsAt_all (vs := lyV ly.1) c.2, f.body, fun h' c => cellsAt_one (cellH_at c.1), 12, rfl, 16, rfl, by decide, by omega, _, rfl, (s1 _).mono ?_⟩
    rintro e _ ⟨rfl, rfl⟩
    refine ⟨_, rfl, cv x15, _, w1, f.body, fun h' c => cellsAt_one (cellH_at c.1), 16, rfl, 20, rfl, by decide, by omega, _, rfl, (s2 _).mono ?_⟩
    rintro e _ ⟨rfl, rfl⟩
    refine ⟨_, rfl, cv x15, _, w2, rfl, tv, w3, fun g16 e16 => ?_⟩
    obtain ⟨x16, c16⟩ := k3 g16 e16
    exact ⟨cv x16, tail g16 b3 x16 c16⟩
  · refine ⟨Cv, cv (Ext.refl _), _, fun h' c => cellsAt_one (cellH_at c.1), f.body, fun h' c => cellsAt_one (cellH_at c.1), 8, rfl, Nat.zero_le _, by omega, _, rfl, (s0 g10).mono ?_⟩
    rintro e _ ⟨rfl, rfl⟩
    refine ⟨_, rfl, cv (Ext.refl _), _, _, fun h' c => cellsAt_all (vs := lyV ly.1) c.2, f.body, fun h' c => cellsAt_one (cellH_at c.1), 12, rfl, 16, rfl, by decide, by omega, _, rfl, ?_⟩
    intro b3 g15 hb3 e15
    obtain ⟨x15, c15, l15⟩ := make _ (Ext.refl _) b3 g15 hb3 e15
    obtain ⟨w3, k3⟩ := setT g15 b3 x15 c15 l15
    refine ⟨rinfoTk, cv x15, (s1 g15).mono ?_⟩
    rintro e _ ⟨rfl, rfl⟩
    refine ⟨_, rfl, cv x15, _, w1, f.body, fun h' c => cellsAt_one (cellH_at c.1), 16, rfl, 20, rfl, by decide, by omega, _, rfl, (s2 _).mono ?_⟩
    rintro e _ ⟨rfl, rfl⟩
    refine ⟨_, rfl, cv x15, _, w2, rfl, tv, w3, fun g16 e16 => ?_⟩
    obtain ⟨x16, c16⟩ := k3 g16 e16
    exact ⟨cv x16, tail g16 b3 x16 c16⟩
  · refine ⟨Cv, cv (Ext.refl _), _, fun h' c => cellsAt_one (cellH_at c.1), f.body, fun h' c => cellsAt_one (cellH_at c.1), 8, rfl, Nat.zero_le _, by omega, _, rfl, (s0 g10).mono ?_⟩
    rintro e _ ⟨rfl, rfl⟩
    refine ⟨_, rfl, cv (Ext.refl _), _, _, fun h' c => cellsAt_all (vs := lyV ly.1) c.2, f.body, fun h' c => cellsAt_one (cellH_at c.1), 12, rfl, 16, rfl, by decide, by omega, _, rfl, (s1 _).mono ?_⟩
    rintro e _ ⟨rfl, rfl⟩
    refine ⟨_, rfl, cv (Ext.refl _), _, w1, f.body, fun h' c => cellsAt_one (cellH_at c.1), 16, rfl, 20, rfl, by decide, by omega, _, rfl, ?_⟩
    intro b3 g15 hb3 e15
    obtain ⟨x15, c15, l15⟩ := make _ (Ext.refl _) b3 g15 hb3 e15
    obtain ⟨w3, k3⟩ := setT g15 b3 x15 c15 l15
    refine ⟨rinfoTk, cv x15, (s2 g15).mono ?_⟩
    rintro e _ ⟨rfl, rfl⟩
    refine ⟨_, rfl, cv x15, _, w2, rfl, tv, w3, fun g16 e16 => ?_⟩
    obtain ⟨x16, c16⟩ := k3 g16 e16
    exact ⟨cv x16, tail g16 b3 x16 c16⟩

end

end Go.Vc

/- The document's checkpoints: Heads, Find. -/
namespace Go.Vc
open Go Go.Proofs Go.MapKept

theorem RefAt.grown {hq hr : Hp} {B : Nat → Prop} {d : Nat} {σ : DS} {row : Option Nat} (D : RefAt rI hq B d σ) (g : Grown hq hr row) (hrow : ∀ b, row = some b → ¬ B b) : RefAt rI hr B d σ :=
  D.keep g.size fun b hb => g.block b (D.lt b hb) fun e => hrow b e.symm hb

theorem flatten_len {z : Nat} : ∀ {rows : List (List Value)}, (∀ r ∈ rows, r.length = z) → rows.flatten.length = rows.length * z := by
  intro rows
  induction rows with
  | nil => simp
  | cons r rows ih => intro h; rw [List.flatten_cons, List.length_append, h r (by simp), ih (fun r hr => h r (by simp [hr])), List.length_cons, Nat.succ_mul]; omega

theorem own_rows {h : Hp} {e : TypeId} {z n base : Nat} {rows : List (List Value)} (hr : ∀ r ∈ rows, r.length = z) (hn : rows.length = n) (hm : n ≤ maxLen) (hb : base ≤ h.size) : Own (h.push (.cells rows.flatten.toArray e)) base e z (.slice (some ⟨h.size, 0, none⟩) n n) n rows.flatten := by
  have hl := flatten_len hr
  rw [hn] at hl
  refine ⟨hl, .inr ⟨h.size, n, _, rfl, hb, push_last, Nat.le_refl _, hm, by simpa using hl, ?_⟩⟩
  show rows.flatten.take (n * z) = _
  rw [List.take_of_length_le (by omega)]

theorem cells_hd {h : Hp} {b o : Nat} {t : Tk} (c : cellsAt h b o (tkV t)) : cellsAt h b (o + 0) (hdV t.h) := by
  refine cellsAt_iff.2 fun j hj => ?_
  have hj : j < 5 := hj
  have h2 := cellsAt_iff.1 c j (by show j < 7; omega)
  have h3 : (tkV t)[j]'(by show j < 7; omega) = (hdV t.h)[j] := by
    match j, hj with
    | 0, _ => rfl
    | 1, _ => rfl
    | 2, _ => rfl
    | 3, _ => rfl
    | 4, _ => rfl
  rw [h3] at h2
  exact h2

section
variable {h : Hp} {B : Nat → Prop} {d : Nat} {σ : DS}

set_option maxHeartbeats 1000000 in
/-- turnoutref20.taken -/
theorem rTaken_c (D : RefAt rI h B d σ) : CallsH Tryz.prog 59 #[vP d] h fun e h' =>
    Same B h h' ∧ RefAt rI h' B d (newestF σ).1 ∧ ∃ p c, e = .returned (.tuple #[.slice p (newestF σ).2.1.length c, vZ (newestF σ).2.2]) ∧
      Own h' h.size 114 7 (.slice p (newestF σ).2.1.length c) (newestF σ).2.1.length ((newestF σ).2.1.map tkV).flatten := by
  have nB : ∀ {x : Nat}, h.size ≤ x → ¬ B x := fun hx hb => by have := D.lt _ hb; omega
  refine V59 _ h _ ⟨fun l hr => ∃ (i : Nat) (p : Option Addr) (c : Nat), l = [.slice p (stN σ i).2.length c, vI i] ∧ i ≤ 2 ∧ (∀ j : Nat, j < i → (takeF (stN σ j).1 j).2.2 = 0) ∧ Same B h hr ∧ RefAt rI hr B d (stN σ i).1 ∧
      Own hr h.size 114 7 (.slice p (stN σ i).2.length c) (stN σ i).2.length ((stN σ i).2.map tkV).flatten,
    fun l _ => (2 - numAt l 1).toNat, ⟨0, none, 0, rfl, by decide, fun j hj => absurd hj (Nat.not_lt_zero j), Same.refl _ _, D, Own.nil _ _ _ _⟩, ?_⟩
  rintro p n c x hr ⟨i, p', c', hl, hi, hj, y, Di, o⟩
  have hl' := hl
  simp only [List.cons.injEq, Value.slice.injEq, Value.int.injEq, and_true, true_and] at hl'
  obtain ⟨⟨rfl, hn, rfl⟩, rfl⟩ := hl'
  clear hl
  have hlen := stN_length σ i
  refine ⟨fun hlt => ?_, fun hlt => ?_⟩
  · have hlt : i < 2 := by have := of_decide_eq_true hlt; omega
    have hon : (stN σ i).1.gone = false ∨ (i : Int) < (stN σ i).1.safe.length := by
      by_cases hi0 : i = 0
      · right
        have := Di.ok.pos
        omega
      · left
        exact (stN_rds σ i).gone.trans (take_zero_on (hj 0 (by omega)))
    refine (rTake_c Di (i : Int) (by omega) hon).mono ?_
    rintro e g1 ⟨y1, D1, rfl⟩
    obtain ⟨t, ht⟩ : ∃ t, t = (takeF (stN σ i).1 i).1 := ⟨_, rfl⟩
    obtain ⟨ok, hok⟩ : ∃ ok, ok = (takeF (stN σ i).1 i).2.1 := ⟨_, rfl⟩
    obtain ⟨code, hcode⟩ : ∃ code, code = (takeF (stN σ i).1 i).2.2 := ⟨_, rfl⟩
    rw [← ht, ← hok, ← hcode]
    refine ⟨_, _, _, _, _, _, _, _, _, rfl, ?_⟩
    intro b g2 hb e2
    have x2 : Ext g1 g2 := by rw [e2]; exact Ext.push _ _
    have c2 : g2[b]? = some (.cells (tkV Tk.no).toArray 114) := by rw [e2, hb, rzerosTk]; exact push_last
    clear e2
    obtain ⟨q1, q2, q3, q4⟩ := tk_set c2 t
    refine ⟨rinfoTk, rfl, q2, q3, ?_⟩
    intro g3 e3
    have x3 : Ext g1 g3 := by rw [e3]; exact x2.over (setsH_same (B := fun x => x = b) rfl) fun x hx => by omega
    have c3 : g3[b]? = some (.cells (tkV t).toArray 114) := by rw [e3]; exact q4
    clear e3 q1 q2 q3 q4 c2 x2
    have y3 : Same B h g3 := (y.trans y1 fun _ h _ => h).trans (x3.same B) fun _ h _ => h
    have D3 : RefAt rI g3 B d (stN σ (i + 1)).1 := D1.ext x3
    have o3 : Own g3 h.size 114 7 (.slice p n c) n ((stN σ i).2.map tkV).flatten := by
      rw [hn]
      rw [hn] at *
      exact (o.keep fun b hb => y1.old b (o.lt hb).2 (nB (o.lt hb).1)).ext x3
    refine ⟨fun hne => ?_, fun hz => ?_⟩
    · have hne : code ≠ 0 := of_decide_eq_true hne
      have e1 : newestF σ = ((stN σ (i + 1)).1, [], code) := by
        unfold newestF
        have : i = 0 ∨ i = 1 := by omega
        rcases this with rfl | rfl
        · rw [if_pos (by rw [hcode] at hne; exact hne), hcode]; rfl
        · have h00 := hj 0 (by decide)
          rw [if_neg (by simpa using h00), if_pos (by rw [hcode] at hne; exact hne), hcode]; rfl
      rw [e1]
      exact ⟨y3, D3, none, 0, rfl, Own.nil _ _ _ _⟩
    · have hz : ¬ code ≠ 0 := of_decide_eq_false hz
      have hj' : ∀ j : Nat, j < i + 1 → (takeF (stN σ j).1 j).2.2 = 0 := fun j hji => by
        by_cases hjj : j < i
        · exact hj j hjj
        · have : j = i := by omega
          subst this
          rw [← hcode]; omega
      refine ⟨fun htrue => ?_, fun hfalse => ?_⟩
      · refine ⟨_, _, _, _, _, _, _, cellsAt_all (vs := tkV t) c3, ?_⟩
        have e2 : (stN σ (i + 1)).2 = (stN σ i).2 ++ [t] := by
          show _ ++ _ = _
          rw [if_pos (by rw [← hok]; exact htrue), ht]
        refine semH_pushS rrowTk (by decide) o3 (r := tkV t) rfl rfl (by decide) (by simp [tkV, Value.oneCell']) (by omega) (by simp only [maxLen]; omega) y3.size fun p4 c4 g4 o4 gr4 _ _ => ?_
        have hl2 : n + 1 = (stN σ (i + 1)).2.length := by rw [e2, List.length_append, ← hn]; rfl
        refine ⟨_, incI (by omega), ⟨i + 1, p4, c4, by rw [hl2], hlt, hj', y3.grown gr4 fun b hb => (o3.lt hb).1, RefAt.grown D3 gr4 fun b hb => nB (o3.lt hb).1, ?_⟩, by simp only [numAt]; omega⟩
        rw [← hl2, e2, flat_snoc]
        exact o4
      · have e2 : (stN σ (i + 1)).2 = (stN σ i).2 := by
          show _ ++ _ = _
          rw [if_neg (by rw [← hok, hfalse]; simp), List.append_nil]
        refine ⟨_, incI (by omega), ⟨i + 1, p, c, by rw [e2, hn], hlt, hj', y3, D3, ?_⟩, by simp only [numAt]; omega⟩
        rw [e2, ← hn]
        exact o3
  · have hi2 : i = 2 := by have := of_decide_eq_false hlt; omega
    subst hi2
    have e1 : newestF σ = ((stN σ 2).1, sortT (stN σ 2).2, 0) := by
      unfold newestF
      have h00 := hj 0 (by decide)
      have h01 := hj 1 (by decide)
      rw [if_neg (by simpa using h00), if_neg (by simpa using h01)]
    rw [e1]
    obtain ⟨l, hl⟩ : ∃ l, l = (stN σ 2).2 := ⟨_, rfl⟩
    rw [← hl] at o hn hlen ⊢
    rcases l with _ | ⟨a, _ | ⟨b, _ | ⟨_, _⟩⟩⟩
    · have hn : n = 0 := hn
      subst hn
      exact ⟨false, ⟨fun hf => (by simp at hf), fun _ => ⟨rfl, rfl⟩⟩, fun hf => (by cases hf), fun _ => ⟨y, Di, p, c, rfl, o⟩⟩
    · have hn : n = 1 := hn
      subst hn
      exact ⟨false, ⟨fun hf => (by simp at hf), fun _ => ⟨rfl, rfl⟩⟩, fun hf => (by cases hf), fun _ => ⟨y, Di, p, c, rfl, o⟩⟩
    · have hn : n = 2 := hn
      subst hn
      have sg : SegS hr p 2 7 [tkV a, tkV b] := o.segS (rows := [tkV a, tkV b]) (by simp [tkV]) rfl
      obtain ⟨ba, oa, pa, za, la, ca⟩ := sg.get (i := 0) (by simp)
      obtain ⟨bb, ob, pb, zb, lb, cb⟩ := sg.get (i := 1) (by simp)
      obtain ⟨ba', oa', pa', za', la', ca'⟩ := sg.at (i := 0) (by simp)
      obtain ⟨bb', ob', pb', zb', lb', cb'⟩ := sg.at (i := 1) (by simp)
      refine ⟨decide ((a.h.gen : Int) < (b.h.gen : Int)), ⟨fun _ => ⟨bb, ob, pb, zb, lb, (b.h.gen : Int), cb 1 _ rfl, ba, oa, pa, za, la, (a.h.gen : Int), ca 1 _ rfl, rfl, rfl⟩, fun hf => (by simp at hf)⟩, fun hB => ?_, fun hB => ?_⟩
      · have hB : (a.h.gen : Int) < (b.h.gen : Int) := of_decide_eq_true hB
        have es : sortT [a, b] = [b, a] := by show (if a.h.gen < b.h.gen then _ else _) = _; rw [if_pos (by omega)]
        rw [es]
        refine ⟨bb', ob', pb', zb', lb', _, _, _, _, _, _, _, cb', ba', oa', pa', za', la', _, _, _, _, _, _, _, ca', ?_⟩
        refine semH_buildS rrowTk.ht (z := 7) (by decide) (by obtain ⟨i, y, hi, hy, hs, _, hys⟩ := rrowTk.hi; exact ⟨i, y, hi, hy, hs, hys⟩) (rows := [tkV b, tkV a]) (by simp [tkV]) rfl rfl (by simp) (by simp) ⟨_, _, _, rfl, ?_⟩
        have xq : Ext hr (hr.push (.cells [tkV b, tkV a].flatten.toArray 114)) := Ext.push _ _
        refine ⟨y.trans (xq.same B) fun _ h _ => h, Di.ext xq, some ⟨hr.size, 0, none⟩, 2, rfl, ?_⟩
        have e : ([b, a].map tkV).flatten = [tkV b, tkV a].flatten := by simp
        rw [e]
        exact own_rows (rows := [tkV b, tkV a]) (by simp [tkV]) rfl (by show 2 ≤ maxLen; decide) y.size
      · have hB : ¬ (a.h.gen : Int) < (b.h.gen : Int) := of_decide_eq_false hB
        have es : sortT [a, b] = [a, b] := by show (if a.h.gen < b.h.gen then _ else _) = _; rw [if_neg (by omega)]
        rw [es]
        exact ⟨y, Di, p, c, rfl, o⟩
    · simp at hlen

/-- turnoutref20.Heads -/
theorem rHeads_c (D : RefAt rI h B d σ) : CallsH Tryz.prog 39 #[vP d] h fun e h' =>
    Same B h h' ∧ RefAt rI h' B d (newestF σ).1 ∧ ∃ p c, e = .returned (.tuple #[.slice p (newestF σ).2.1.length c, vZ (newestF σ).2.2]) ∧
      Own h' h.size 39 5 (.slice p (newestF σ).2.1.length c) (newestF σ).2.1.length (((newestF σ).2.1.map (·.h)).map hdV).flatten := by
  have nB : ∀ {x : Nat}, h.size ≤ x → ¬ B x := fun hx hb => by have := D.lt _ hb; omega
  refine V39 _ h _ ⟨false, eqv_ptr uPRd _, fun hf => (by cases hf), fun _ => (rTaken_c D).mono ?_⟩
  rintro e g ⟨y, Dg, q, cq, rfl, oq⟩
  obtain ⟨l, hl⟩ : ∃ l, l = (newestF σ).2.1 := ⟨_, rfl⟩
  have hlen : l.length ≤ 2 := by
    rw [hl]
    unfold newestF
    split
    · exact Nat.zero_le _
    · split
      · exact Nat.zero_le _
      · have := stN_length σ 2
        show (sortT (stN σ 2).2).length ≤ 2
        unfold sortT
        split
        · split <;> exact Nat.le_refl _
        · exact this
  rw [← hl] at oq ⊢
  refine ⟨_, _, _, _, rfl, ?_⟩
  have sg : SegS g q l.length 7 (l.map tkV) := oq.segS (by intro r hr; obtain ⟨t, _, rfl⟩ := List.mem_map.1 hr; rfl) (by simp)
  have s0 := y.size
  refine ⟨fun ll hr => ∃ (i : Nat) (p : Option Addr) (c : Nat), ll = [.slice p i c, vI i] ∧ i ≤ l.length ∧ Ext g hr ∧ Own hr g.size 39 5 (.slice p i c) i (((l.take i).map (·.h)).map hdV).flatten,
    fun ll _ => (l.length - numAt ll 1).toNat, ⟨0, none, 0, rfl, Nat.zero_le _, Ext.refl _, Own.nil _ _ _ _⟩, ?_⟩
  rintro p n c x hr ⟨i, p', c', hll, hi, xr, o⟩
  cases hll
  refine ⟨fun hlt => ?_, fun hlt => ?_⟩
  · have hlt : n < l.length := by have := of_decide_eq_true hlt; omega
    obtain ⟨b, ob, e1, e2, e3, e4⟩ := (sg.ext xr).at (i := n) (by simpa using hlt)
    have e4 : cellsAt hr b (ob + Int.toNat (n : Int) * 7) (tkV l[n]) := by simpa using e4
    refine ⟨b, ob, e1, e2, e3, _, _, _, _, _, cells_hd e4, ?_⟩
    refine semH_pushS rowHd (by decide) o (r := hdV l[n].h) rfl rfl (by decide) (by simp [hdV, Value.oneCell']) (by omega) (by simp only [maxLen]; omega) xr.size fun p4 c4 g4 o4 gr4 _ _ => ?_
    refine ⟨_, incI (by omega), ⟨n + 1, p4, c4, rfl, hlt, xr.grown gr4 fun b hb => (o.lt hb).1, ?_⟩, by simp only [numAt]; omega⟩
    rw [take_one hlt, List.map_append, List.map_append, List.flatten_append]
    have : (List.map hdV (List.map (fun x => x.h) [l[n]])).flatten = hdV l[n].h := by simp
    rw [this]
    exact o4
  · have hn : n = l.length := by have := of_decide_eq_false hlt; omega
    subst hn
    rw [List.take_length] at o
    exact ⟨(y.trans (xr.same B) fun _ h _ => h), Dg.ext xr, p, c, rfl, o.rebase fun b hb => by have := (o.lt hb).1; omega⟩

set_option maxHeartbeats 1000000 in
/-- turnoutref20.Find -/
theorem rFind_c (D : RefAt rI h B d σ) : CallsH Tryz.prog 37 #[vP d] h fun e h' =>
    Same B h h' ∧ RefAt rI h' B d (findF σ).1 ∧ e = .returned (.tuple #[.agg (hdV (findF σ).2.1).toArray, .string (findF σ).2.2.1, vZ (findF σ).2.2.2]) := by
  have nB : ∀ {x : Nat}, h.size ≤ x → ¬ B x := fun hx hb => by have := D.lt _ hb; omega
  refine V37 _ h _ ?_
  intro b g1 hb e1
  have x1 : Ext h g1 := by rw [e1]; exact Ext.push _ _
  have cb1 : g1[b]? = some (.cells (hdV Hd.no).toArray 39) := by rw [e1, hb, zerosHead]; exact push_last
  clear e1
  have lb1 := (Array.getElem?_eq_some_iff.1 cb1).1
  have hbh : h.size ≤ b := by omega
  refine ⟨infoHead, false, eqv_ptr uPRd _, fun hf => (by cases hf), fun _ => (rTaken_c (D.ext x1)).mono ?_⟩
  rintro e g2 ⟨y2, D2, q, cq, rfl, oq⟩
  have cb2 := (y2.old b lb1 (nB hbh)).trans cb1
  have y02 := (x1.same B).trans y2 fun _ h _ => h
  -- the end: the result is set
  have fin : ∀ (H : Hd) (s : ByteArray) (code : Int) (τ : DS) (gq gr : Hp), Same B h gq → RefAt rI gq B d τ → gq[b]? = some (.cells (hdV Hd.no).toArray 39) → findF σ = (τ, H, s, code) → gr = setsH gq b 0 (hdV H) →
      ∃ f0 f1 f2 f3 f4 : Int, cellsAt gr b 0 [vZ f0, .int .u64 f1, .int .u64 f2, vZ f3, vZ f4] ∧
        (Same B h gr ∧ RefAt rI gr B d (findF σ).1 ∧ Ending.returned (.tuple #[.agg #[vZ f0, .int .u64 f1, .int .u64 f2, vZ f3, vZ f4], .string s, vZ code]) = .returned (.tuple #[.agg (hdV (findF σ).2.1).toArray, .string (findF σ).2.2.1, vZ (findF σ).2.2.2])) := by
    intro H s code τ gq gr y Dq cq ef er
    have cr := (hd_set cq H).2.2.2
    rw [← er] at cr
    have ys : Same (fun x => x = b) gq gr := by rw [er]; exact setsH_same rfl
    refine ⟨_, _, _, _, _, cellsAt_all (vs := hdV H) cr, y.trans ys fun x hx hl => by omega, ?_, by rw [ef]; rfl⟩
    rw [ef]
    exact Dq.other ys fun x hx e => nB hbh (e ▸ hx)
  have one : ∀ H : Hd, ∀ v ∈ hdV H, v.oneCell' = true := fun H => by simp [hdV, Value.oneCell']
  have wr : ∀ {gq : Hp}, gq[b]? = some (.cells (hdV Hd.no).toArray 39) → wrAt gq b 0 5 := fun c => (hd_set c Hd.no).2.2.1
  obtain ⟨l, hl⟩ : ∃ l, l = (newestF σ).2.1 := ⟨_, rfl⟩
  obtain ⟨code, hcode⟩ : ∃ code, code = (newestF σ).2.2 := ⟨_, rfl⟩
  have hfit : ∀ t ∈ l, t.Fit := fun t ht => newest_fit (by rw [← hl]; exact ht)
  rw [← hl] at oq
  rw [← hl, ← hcode]
  refine ⟨_, _, _, _, rfl, fun hne => ?_, fun hz => ?_⟩
  · have hne : code ≠ 0 := of_decide_eq_true hne
    refine ⟨rfl, one Hd.no, wr cb2, fun gr er => ?_⟩
    exact fin Hd.no ⟨#[]⟩ code _ g2 gr y02 D2 cb2 (by unfold findF; rw [← hcode, if_pos hne]) er
  have hz : ¬ code ≠ 0 := of_decide_eq_false hz
  have ef : findF σ = findL (newestF σ).1 l := by
    unfold findF
    rw [← hcode, if_neg hz, hl]
  refine ⟨fun hn0 => ?_, fun hn0 => ?_⟩
  · have hn0 : l = [] := List.eq_nil_of_length_eq_zero (by have := of_decide_eq_true hn0; omega)
    refine ⟨rfl, one Hd.no, wr cb2, fun gr er => ?_⟩
    exact fin Hd.no ⟨#[]⟩ 200 _ g2 gr y02 D2 cb2 (by rw [ef, hn0]; rfl) er
  have hn0 : l ≠ [] := fun h => by rw [h] at hn0; simp at hn0
  obtain ⟨t, l', hlt⟩ := List.exists_cons_of_ne_nil hn0
  have hlpos : 0 < l.length := by rw [hlt]; simp
  have ft := hfit t (by rw [hlt]; simp)
  have ef : findF σ = findT (newestF σ).1 t := by rw [ef, hlt]; rfl
  obtain ⟨σ0, hσ0⟩ : ∃ σ0, σ0 = (newestF σ).1 := ⟨_, rfl⟩
  rw [← hσ0] at ef D2
  have sg : SegS g2 q l.length 7 (l.map tkV) := oq.segS (by intro r hr; obtain ⟨t, _, rfl⟩ := List.mem_map.1 hr; rfl) (by simp)
  obtain ⟨bq, ob, p1, p2, p3, p4⟩ := sg.at (i := 0) (by simpa using hlpos)
  have et : (l.map tkV)[0]'(by simpa using hlpos) = tkV t := by simp [hlt]
  rw [et] at p4
  refine ⟨bq, ob, p1, p2, p3, _, _, _, _, _, _, _, p4, ?_⟩
  clear et p1 p2 p3 p4 sg oq bq ob hn0 hfit
  intro b2 g3 hb2 e3
  have x3 : Ext g2 g3 := by rw [e3]; exact Ext.push _ _
  have c3 : g3[b2]? = some (.cells (tkV Tk.no).toArray 114) := by rw [e3, hb2, rzerosTk]; exact push_last
  clear e3
  obtain ⟨q1, q2, q3, q4⟩ := tk_set c3 t
  refine ⟨rinfoTk, rfl, q2, q3, ?_⟩
  intro g4 e4
  have x4 : Ext g2 g4 := by rw [e4]; exact x3.over (setsH_same (B := fun x => x = b2) rfl) fun x hx => by omega
  have c4 : g4[b2]? = some (.cells (tkV t).toArray 114) := by rw [e4]; exact q4
  clear e4 q1 q2 q3 q4 c3 x3
  have hb2h : h.size ≤ b2 := by have := y02.size; omega
  have lt := ft.n1
  have ln := ft.n0
  have hpl : 0 ≤ placeH t.h ∧ placeH t.h ≤ 100000 ∧ 0 ≤ t.h.slot * t.h.ls ∧ t.h.slot * t.h.ls ≤ 10000 := by
    have := ft.s; have := ft.l0; have := ft.l1
    unfold placeH
    rcases ft.s with e | e <;> rw [e] <;> omega
  have epl : placeH t.h = 2 + t.h.slot * t.h.ls := rfl
  have xt := x4
  refine ⟨fun ll hr => ∃ (k : Nat) (τ : DS) (acc : List UInt8), ll = [.string (tx acc), vI k] ∧ acc.length = min (491 * k) t.size ∧ (0 < k → 491 * (k - 1) < t.size) ∧ Same B h hr ∧ RefAt rI hr B d τ ∧ hr[b]? = some (.cells (hdV Hd.no).toArray 39) ∧ hr[b2]? = some (.cells (tkV t).toArray 114) ∧
      gath t (t.size + 1) 0 σ0 [] = gath t (t.size + 1 - k) k τ acc,
    fun ll _ => t.size - (match ll with | .string s :: _ => s.size | _ => 0), ⟨0, σ0, [], rfl, by simp, by omega, y02.trans (xt.same B) fun _ h _ => h, D2.ext xt, (xt.old b (Array.getElem?_eq_some_iff.1 cb2).1).trans cb2, c4, rfl⟩, ?_⟩
  rintro sacc kx hr ⟨k, τ, acc, hll, hacc, hk, y, Dτ, cb, ct, hg⟩
  cases hll
  have hsz : (tx acc).size = acc.length := tx_size _
  have hklt : k ≤ t.size := by
    by_cases h0 : 0 < k
    · have := hk h0; omega
    · omega
  refine ⟨_, cellsAt_one (cellH_at ct), fun hlt' => ?_, fun hlt' => ?_⟩
  · have hlt' : acc.length < t.size := by have := of_decide_eq_true hlt'; omega
    have e491 : acc.length = 491 * k := by omega
    refine ⟨_, cellsAt_one (cellH_at ct), _, cellsAt_one (cellH_at ct), _, wrapI64 (by omega) (by omega), placeH t.h, wrapI64 (by omega) (by omega), _, wrapI64 (by omega) (by omega), (rGet_c Dτ (placeH t.h + k)).mono ?_⟩
    rintro e g7 ⟨y7, D7, rfl⟩
    obtain ⟨f, hf⟩ : ∃ f, f = (getF τ (placeH t.h + k)).1 := ⟨_, rfl⟩
    obtain ⟨fc, hfc⟩ : ∃ fc, fc = (getF τ (placeH t.h + k)).2 := ⟨_, rfl⟩
    rw [← hf, ← hfc]
    refine ⟨_, _, _, _, _, rfl, frm_new f fun b3 g9 hb3 x9 cf => ?_⟩
    have K : ∀ {x : Nat} {vs : Array Value} {ty : TypeId}, h.size ≤ x → hr[x]? = some (.cells vs ty) → g9[x]? = some (.cells vs ty) := fun {x _ _} hx c => by
      have l0 := (Array.getElem?_eq_some_iff.1 c).1
      have l7 := y7.size
      exact (x9.old x (by omega)).trans ((y7.old x l0 (nB hx)).trans c)
    have cb9 := K hbh cb
    have ct9 := K hb2h ct
    have y9 : Same B h g9 := (y.trans y7 fun _ h _ => h).trans (x9.same B) fun _ h _ => h
    have D9 := D7.ext x9
    have hg' : gath t (t.size + 1) 0 σ0 [] = if fc = 40 then ((τ.read (placeH t.h + k)).1, [], 40) else if fc ≠ 0 ∨ ¬ f.isPiece t.h.gen k (t.size - acc.length) then ((τ.read (placeH t.h + k)).1, [], 180) else gath t (t.size - k) (k + 1) (τ.read (placeH t.h + k)).1 (acc ++ bl f.body) := by
      rw [hg, show t.size + 1 - k = (t.size - k) + 1 by omega]
      show (if acc.length < t.size then _ else _) = _
      rw [if_pos hlt', ← hfc, ← hf]
    refine ⟨fun h40 => ?_, fun h40 => ?_⟩
    · have h40 : fc = 40 := of_decide_eq_true h40
      rw [if_pos h40] at hg'
      refine ⟨rfl, one Hd.no, wr cb9, fun gr er => ?_⟩
      rw [h40]
      exact fin Hd.no ⟨#[]⟩ 40 _ g9 gr y9 D9 cb9 (by rw [ef]; unfold findT; rw [hg', if_pos (by show (40 : Int) ≠ 0; decide)]) er
    have h40 : ¬ fc = 40 := of_decide_eq_false h40
    rw [if_neg h40] at hg'
    refine ⟨decide (fc ≠ 0 ∨ ¬ f.isPiece t.h.gen k (t.size - acc.length)), ⟨fun k0 => ⟨rfl, ?_⟩, fun k0 => ⟨_, cellsAt_one (cellH_at cf), fun k1 => ⟨rfl, ?_⟩, fun k1 => ⟨_, cellsAt_one (cellH_at cf), _, cellsAt_one (cellH_at ct9), fun k2 => ⟨rfl, ?_⟩, fun k2 => ⟨_, cellsAt_one (cellH_at cf), fun k3 => ⟨rfl, ?_⟩, fun k3 => ⟨_, cellsAt_one (cellH_at cf), _, cellsAt_one (cellH_at ct9), ((t.size - acc.length : Nat) : Int), by rw [hsz, wrapI64] <;> omega, rfl, ?_⟩⟩⟩⟩⟩, fun hB => ?_, fun hB => ?_⟩
    · exact decide_eq_true (p := fc ≠ 0 ∨ ¬ f.isPiece t.h.gen k (t.size - acc.length)) (.inl (of_decide_eq_true k0))
    · have k1 : f.kind ≠ 2 := of_decide_eq_true k1
      exact decide_eq_true (p := fc ≠ 0 ∨ ¬ f.isPiece t.h.gen k (t.size - acc.length)) (.inr fun hh => k1 hh.1)
    · have k2 : (f.number : Int) ≠ (t.h.gen : Int) := of_decide_eq_true k2
      exact decide_eq_true (p := fc ≠ 0 ∨ ¬ f.isPiece t.h.gen k (t.size - acc.length)) (.inr fun hh => k2 (by rw [hh.2.1]))
    · have k3 : f.index ≠ (k : Int) := of_decide_eq_true k3
      exact decide_eq_true (p := fc ≠ 0 ∨ ¬ f.isPiece t.h.gen k (t.size - acc.length)) (.inr fun hh => k3 hh.2.2.1)
    · have k0 : ¬ fc ≠ 0 := of_decide_eq_false k0
      have k1 : ¬ f.kind ≠ 2 := of_decide_eq_false k1
      have k2 : ¬ (f.number : Int) ≠ (t.h.gen : Int) := of_decide_eq_false k2
      have k3 : ¬ f.index ≠ (k : Int) := of_decide_eq_false k3
      apply decide_eq_decide.2
      constructor
      · rintro (hh | hh)
        · exact (k0 hh).elim
        · intro h20
          exact hh ⟨by omega, by omega, by omega, by omega⟩
      · intro hh
        exact .inr fun h3 => hh (by have := h3.2.2.2; omega)
    · have hB := of_decide_eq_true hB
      rw [if_pos hB] at hg'
      refine ⟨rfl, one Hd.no, wr cb9, fun gr er => ?_⟩
      exact fin Hd.no ⟨#[]⟩ 180 _ g9 gr y9 D9 cb9 (by rw [ef]; unfold findT; rw [hg', if_pos (by show (180 : Int) ≠ 0; decide)]) er
    · have hB := of_decide_eq_false hB
      rw [if_neg hB] at hg'
      have hpc : f.isPiece t.h.gen k (t.size - acc.length) := Decidable.of_not_not fun hh => hB (.inr hh)
      have hbs := hpc.2.2.2
      have hbl : (bl f.body).length = f.body.size := bl_length _
      have elen : (acc ++ bl f.body).length = acc.length + f.body.size := by rw [List.length_append, hbl]
      have es : tx acc ++ f.body = tx (acc ++ bl f.body) := bl_inj (by rw [bl_append, bl_tx, bl_tx])
      refine ⟨_, cellsAt_one (cellH_at cf), by rw [hsz]; omega, _, es, _, incI (by omega), ⟨k + 1, _, acc ++ bl f.body, rfl, by rw [elen, hbs]; omega, fun _ => by simp only [Nat.add_sub_cancel]; omega, y9, D9, cb9, ct9, ?_⟩, ?_⟩
      · rw [hg', show t.size + 1 - (k + 1) = t.size - k by omega]
      · show t.size - (tx (acc ++ bl f.body)).size < t.size - (tx acc).size
        rw [tx_size, elen, hsz]; omega
  · have hge : ¬ acc.length < t.size := by have := of_decide_eq_false hlt'; omega
    have hg' : gath t (t.size + 1) 0 σ0 [] = (τ, acc, 0) := by
      rw [hg, show t.size + 1 - k = (t.size - k) + 1 by omega]
      show (if acc.length < t.size then _ else _) = _
      rw [if_neg hge]
    have hsum : moreB 0#32 (bl (tx acc)) = sumB [tx acc] := by
      have := sumB_more [] (tx acc)
      rw [List.nil_append] at this
      rw [this]; rfl
    refine ⟨fun h' => h'[b2]? = some (.cells (tkV t).toArray 114), ct, (rMore_c 0#32 (tx acc) (by rw [hsz]; simp only [maxLen]; omega) hr).mono ?_⟩
    rintro e g7 ⟨rfl, rfl⟩
    rw [hsum]
    refine ⟨_, rfl, ct, (t.sum : Int), fun h' c => cellsAt_one (cellH_at c), fun hne => ?_, fun he => ?_⟩
    · have hne : (sumB [tx acc]).toNat ≠ t.sum := by have := of_decide_eq_true hne; omega
      refine ⟨rfl, one Hd.no, wr cb, fun gr er => ?_⟩
      refine fin Hd.no ⟨#[]⟩ 180 τ _ gr y Dτ cb ?_ er
      rw [ef]; unfold findT
      rw [hg', if_neg (by simp), if_pos hne]
    · have he : ¬ (sumB [tx acc]).toNat ≠ t.sum := by have := of_decide_eq_false he; omega
      refine ⟨_, _, _, _, _, tk_hd ct, rfl, one t.h, wr cb, fun gr er => ?_⟩
      refine fin t.h (tx acc) 0 τ _ gr y Dτ cb ?_ er
      rw [ef]; unfold findT
      rw [hg', if_neg (by simp), if_neg he]

end

end Go.Vc

