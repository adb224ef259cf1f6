/- Checkpoints: the first examples. -/
import Derived.Test.YtlidgpojlgochaaDoorS9CCkI
set_option maxRecDepth 10000
namespace Go.Vc
open Go Go.Proofs Go.MapKept

def aH1 : Hd := ⟨0, 1, 1, 2, 4⟩
def aH2 : Hd := ⟨1, 2, 2, 2, 4⟩
def aS1 : ByteArray := longF 500 1
def aS2 : ByteArray := ⟨#[120]⟩
theorem aFit1 : FitsH 10 aH1 aS1 := ⟨by decide, by unfold aS1; rw [longF_size]; decide, by unfold aS1; rw [longF_size]; decide⟩
theorem aFit2 : FitsH 10 aH2 aS2 := ⟨by decide, by decide, by decide⟩
theorem aNext : nextF aH1 0 = (aH2, 0) := by decide
theorem aOk (H : Hd) (h : H = aH1 ∨ H = aH2) : H.Ok := by
  rcases h with rfl | rfl <;> exact ⟨by decide, by decide, by decide, by decide, by decide, by decide, by decide, by decide⟩

theorem Alive.new (n : Nat) : Alive (DS.new n) (List.replicate n zero512) [] 0 := ⟨rfl, rfl, rfl, rfl⟩
theorem Alive.cut {σ : DS} {S : List ByteArray} {P : List (Nat × ByteArray)} {p : Nat} (A : Alive σ S P p) (n : Int) : Alive (σ.cut n) S P (max n 0).toNat := by
  have e : σ.cut n = { σ with plan := (max n 0).toNat } := by unfold DS.cut; rw [if_neg (by rw [A.g]; simp)]
  rw [e]
  exact ⟨A.g, A.s, A.q, rfl⟩
theorem Alive.crash (σ : DS) (fates : List (Int × Int)) : Alive (σ.crash fates) (σ.crash fates).safe [] 0 := ⟨rfl, rfl, rfl, rfl⟩
theorem Same.toExt {h hr : Hp} (x : Same NoB h hr) : Ext h hr := ⟨x.size, fun b hb => x.old b hb id⟩

set_option maxHeartbeats 1000000 in
/-- turnoutlaw20.awake -/
theorem awake_c (h : Hp) (hh : Halves h) : CallsH Tryd.prog 9 #[] h fun e h' => Ext h h' ∧ e = .returned (.bool true) := by
  refine V9 h _ ((new_c (10 : Int)).mono ?_)
  rintro e h1 (⟨hbad, rfl, rfl⟩ | ⟨_, _, d, F, rfl⟩)
  · omega
  have W1 := Wk.fresh F
  obtain ⟨C, hC⟩ : ∃ C : Nat → Prop, C = fun b => h.size ≤ b ∧ b < h1.size := ⟨_, rfl⟩
  rw [← hC] at W1
  have A1 : Alive (DS.new (10 : Int).toNat) (List.replicate 10 zero512) [] 0 := Alive.new 10
  refine ⟨_, _, rfl, (layout_c 10 2 (by decide) h1).mono ?_⟩
  rintro e h2 ⟨x2, rfl⟩
  rw [show layF 10 2 = ((2, 4), 0) from by decide]
  refine ⟨_, _, _, rfl, ly_new (2, 4) fun b h3 hb x3 c3 => ?_⟩
  refine ⟨fun l hq => hq = h3, ⟨false, ⟨false, eqv_ptr uPD _, fun hf => (by cases hf), fun _ => ⟨fun hf => (by simp at hf), fun _ => ⟨fun hf => (by simp at hf), fun _ => ⟨_, _, cellsAt_all (vs := lyV (2, 4)) c3, _, eqv_lay (2, 4) (2, 4), rfl, by simp⟩⟩⟩⟩, fun hf => (by cases hf), fun _ => rfl⟩, ?_⟩
  rintro h3' rfl
  refine ⟨_, _, cellsAt_all (vs := lyV (2, 4)) c3, hd_new aH1 fun b1 h4 hb1 x4 c4 => ?_⟩
  have W4 := W1.ext ((x2.trans x3).trans x4)
  refine ⟨fun h' => h'[b1]? = some (.cells (hdV aH1).toArray 26), c4, _, _, _, _, _, fun h' c => cellsAt_all (vs := hdV aH1) c, (long_c 500 1 (by decide) (by decide) h4).mono ?_⟩
  rintro e h5 ⟨x5, rfl⟩
  have W5 := W4.ext x5
  have c5 := (x5.old b1 (Array.getElem?_eq_some_iff.1 c4).1).trans c4
  have d5 := ((x4.trans x5).old b (Array.getElem?_eq_some_iff.1 c3).1).trans c3
  have l2 := x2.size
  have l3 := x3.size
  have nb : ¬ C b := fun h => by rw [hC] at h; have := h.2; omega
  have nb1 : ¬ C b1 := fun h => by rw [hC] at h; have := h.2; omega
  refine ⟨_, rfl, c5, (W5.write hh (fun hf => hf) (aOk aH1 (.inl rfl)) aS1 (by rw [A1.q]; decide)).mono ?_⟩
  rintro e h6 ⟨C6, W6, k6, rfl⟩
  obtain ⟨w0, T, A6, L6⟩ := left_whole aFit1 (S := List.replicate 10 zero512) (by simp) (by intro s hs; rw [List.eq_of_mem_replicate hs]; exact zero512_size) A1
  rw [w0]
  have hT : ∀ s ∈ T, s.size = 512 := by rw [← A6.s]; exact W6.disk.ok.size
  have J6 := J.first aFit1 L6 hT
  obtain ⟨c6, nc6⟩ := k6.cell c5 nb1
  obtain ⟨d6, nd6⟩ := k6.cell d5 nb
  refine ⟨_, rfl, c6, (W6.cut 3 (by decide)).mono ?_⟩
  rintro e h7 ⟨W7, k7, rfl⟩
  have A7 := A6.cut 3
  obtain ⟨c7, _⟩ := k7.cell c6 nc6
  obtain ⟨d7, _⟩ := k7.cell d6 nd6
  refine ⟨rfl, _, _, _, _, _, cellsAt_all (vs := hdV aH1) c7, (next_c aH1 0 h7).mono ?_⟩
  rintro e h8 ⟨x8, rfl⟩
  rw [aNext]
  refine ⟨_, _, _, _, _, _, rfl, hd_new aH2 fun b2 h9 hb2 x9 c9 => ?_⟩
  have x79 := x8.trans x9
  have W9 := W7.ext x79
  have e8 := (x79.old b1 (Array.getElem?_eq_some_iff.1 c7).1).trans c7
  have d9 := (x79.old b (Array.getElem?_eq_some_iff.1 d7).1).trans d7
  have nb2 : ¬ C6 b2 := fun h => by have := W7.disk.lt _ h; have := x8.size; omega
  refine ⟨_, _, _, _, _, cellsAt_all (vs := hdV aH2) c9, (W9.write hh (fun hf => hf) (aOk aH2 (.inr rfl)) aS2 (by rw [A7.q]; decide)).mono ?_⟩
  rintro e h10 ⟨C10, W10, k10, rfl⟩
  have L10 := left_write aFit2 J6.len hT A7 []
  obtain ⟨c10, nc10⟩ := k10.cell c9 nb2
  obtain ⟨e10, ne10⟩ := k10.cell e8 nc6
  obtain ⟨d10, nd10⟩ := k10.cell d9 nd6
  refine ⟨_, rfl, (W10.crash [] (SegS.nil _ _) (by simp)).mono ?_⟩
  rintro e h11 ⟨W11, k11, rfl⟩
  have hT2 : ∀ s ∈ ((writeC (((writeC (DS.new (10 : Int).toNat) aH1 aS1).1).cut 3) aH2 aS2).1.crash []).safe, s.size = 512 := W11.disk.ok.size
  have hnum : numP aS2 = 1 := by decide
  obtain ⟨w1, J11⟩ : (writeC (((writeC (DS.new (10 : Int).toNat) aH1 aS1).1).cut 3) aH2 aS2).2 = 40 ∧ J 10 ((writeC (((writeC (DS.new (10 : Int).toNat) aH1 aS1).1).cut 3) aH2 aS2).1.crash []).safe aH1 aS1 := by
    rcases J6.step aFit2 rfl rfl (by decide) hT2 L10 with ⟨w1, J11, _⟩ | ⟨hp, _⟩
    · exact ⟨w1, J11⟩
    · rw [hnum] at hp
      exact absurd hp (by decide)
  rw [w1]
  have A11 := Alive.crash (writeC (((writeC (DS.new (10 : Int).toNat) aH1 aS1).1).cut 3) aH2 aS2).1 []
  refine ⟨rfl, (W11.find hh (fun hf => hf)).mono ?_⟩
  rintro e h12 ⟨W12, k12, rfl⟩
  rw [J11.find A11]
  have kk := k11.trans k12
  obtain ⟨c12, _⟩ := kk.cell c10 nc10
  obtain ⟨e12, _⟩ := kk.cell e10 ne10
  obtain ⟨d12, _⟩ := kk.cell d10 nd10
  refine ⟨_, _, _, _, _, _, _, rfl, hd_new aH1 fun b3 h13 hb3 x13 c13 => ?_⟩
  have W13 := W12.ext x13
  have c14 := (x13.old b2 (Array.getElem?_eq_some_iff.1 c12).1).trans c12
  have e14 := (x13.old b1 (Array.getElem?_eq_some_iff.1 e12).1).trans e12
  have d14 := (x13.old b (Array.getElem?_eq_some_iff.1 d12).1).trans d12
  refine ⟨fun _ => ⟨fun _ => ⟨_, _, _, _, _, cellsAt_all (vs := hdV aH2) c14, _, _, cellsAt_all (vs := lyV (2, 4)) d14, true, eqv_hd aH2 aH2, fun _ => ⟨fun _ => ⟨fun _ => ⟨_, _, _, _, _, cellsAt_all (vs := hdV aH1) c13, _, _, _, _, _, cellsAt_all (vs := hdV aH1) e14, true, eqv_hd aH1 aH1, fun _ => ?_, fun hf => (by cases hf)⟩, fun hf => (by simp at hf)⟩, fun hf => (by simp at hf)⟩, fun hf => (by cases hf)⟩, fun hf => (by simp at hf)⟩, fun hf => (by simp at hf)⟩
  refine (long_c 500 1 (by decide) (by decide) h13).mono ?_
  rintro e h14 ⟨x14, rfl⟩
  refine ⟨_, rfl, W13.same.toExt.trans x14, ?_⟩
  rw [show decide (aS1 = longF 500 1) = true from decide_eq_true rfl]

end Go.Vc
