import Derived.Test.YthkbecpgbjejkaaDoorS9WWrB
import Derived.Test.YthkbecpgbjejkaaDoorS9WWlX
set_option maxRecDepth 10000
/- The document's log: Scan, Last. -/
namespace Go.Vc
open Go Go.Proofs Go.MapKept

section
variable {h : Hp} {B : Nat → Prop} {d : Nat} {σ : DS}

set_option maxHeartbeats 2000000 in
/-- turnoutref19.Scan -/
theorem rscan_c (W : RefAt rI h B d σ) (first count : Int) (h1 : first ≤ 9223372036854775807) (e : Nat) :
    CallsH Tryd.prog 45 #[vP d, vZ first, vZ count, vU e] h fun en hs => Same B h hs ∧ RefAt rI hs B d (scanF σ first count e).1 ∧
      ∃ p c, en = .returned (.tuple #[.slice p (scanF σ first count e).2.1.length c, vZ (scanF σ first count e).2.2]) ∧ Own hs h.size 9 1 (.slice p (scanF σ first count e).2.1.length c) (scanF σ first count e).2.1.length ((scanF σ first count e).2.1.map Value.string) := by
  have hm := W.ok.most
  refine V45 _ _ _ _ h _ ((region_c W first count h1).mono ?_)
  rintro r h' ⟨rfl, rfl⟩
  refine ⟨_, rfl, fun _ hq => hq = h' ∧ (regionB σ.safe.length first count && epochB e) = true, ⟨!(regionB σ.safe.length first count && epochB e), ⟨fun hr => ⟨rfl, ?_⟩, fun hr => ⟨fun h1 => ⟨rfl, ?_⟩, fun h1 => ⟨rfl, ?_⟩⟩⟩, fun hB => ?_, fun hB => ⟨rfl, by simpa using hB⟩⟩, ?_⟩
  · rw [show regionB σ.safe.length first count = false by simpa using hr]; rfl
  · have h1 := of_decide_eq_true h1
    rw [show epochB e = false from decide_eq_false (by omega)]; simp
  · have h1 := of_decide_eq_false h1
    rw [show regionB σ.safe.length first count = true by simpa using hr]
    unfold epochB
    by_cases h2 : (9223372036854775807 : Int) < (e : Int)
    · rw [decide_eq_true h2, decide_eq_false (by omega)]; rfl
    · rw [decide_eq_false h2, decide_eq_true (by omega)]; rfl
  · have hB : (regionB σ.safe.length first count && epochB e) = false := by rwa [Bool.not_eq_true'] at hB
    have e1 : scanF σ first count e = (σ, [], 1) := by unfold scanF; rw [if_neg (by rw [hB]; decide)]
    rw [e1]
    exact ⟨Same.refl _ _, W, none, 0, rfl, Own.nil _ _ _ _⟩
  rintro hz ⟨rfl, hok⟩
  have e0 : scanF σ first count e = scanN first.toNat e count.toNat 0 σ Rd.no := by unfold scanF; rw [if_pos hok]
  obtain ⟨hr, he⟩ : regionB σ.safe.length first count = true ∧ epochB e = true := by simpa using hok
  have hrr : 0 ≤ first ∧ 1 ≤ count ∧ first < σ.safe.length ∧ count ≤ σ.safe.length - first := of_decide_eq_true hr
  obtain ⟨F, rfl⟩ : ∃ F : Nat, first = F := ⟨first.toNat, by omega⟩
  obtain ⟨N, rfl⟩ : ∃ N : Nat, count = N := ⟨count.toNat, by omega⟩
  rw [Int.toNat_natCast, Int.toNat_natCast] at e0
  rw [e0]
  clear e0 he hok hr
  intro r h2 hrb e2
  rw [zerosMet] at e2
  have x2 : Ext hz h2 := by rw [e2]; exact Ext.push _ _
  have c2 : h2[r]? = some (.cells (metV Rd.no none 0).toArray 136) := by rw [e2, hrb]; exact push_last
  clear e2
  have hlt := W.lt
  refine ⟨infoMet, fun l hq => ∃ (i : Nat) (R : Rd) (p : Option Addr) (c : Nat) (τ : DS), l = [vI i] ∧ i ≤ N ∧ hq[r]? = some (.cells (metV R p c).toArray 136) ∧ Own hq hz.size 9 1 (.slice p R.recs.length c) R.recs.length (R.recs.map Value.string) ∧ R.half.length ≤ 65536 ∧ Same B hz hq ∧ RefAt rI hq B d τ ∧ R.recs.length ≤ 491 * i ∧
      scanN F e N 0 σ Rd.no = scanN F e (N - i) i τ R,
    fun l _ => (N - numAt l 0).toNat, ⟨0, Rd.no, none, 0, σ, rfl, Nat.zero_le _, c2, Own.nil _ _ _ _, Nat.zero_le _, x2.same _, W.ext x2, Nat.zero_le _, rfl⟩, ?_⟩
  rintro x hq ⟨i, R, p, c, τ, hl, hi, cr, row, hhl, y, D, hrl, hrun⟩
  cases hl
  have fin : ∀ {hs : Hp} {τ' : DS}, Own hs hz.size 9 1 (.slice p R.recs.length c) R.recs.length (R.recs.map Value.string) → Same B hz hs → RefAt rI hs B d τ' → scanN F e N 0 σ Rd.no = (τ', R.recs, 0) → Same B hz hs ∧ RefAt rI hs B d (scanN F e N 0 σ Rd.no).1 ∧
      ∃ p1 c1, (Ending.returned (.tuple #[.slice p R.recs.length c, vZ 0])) = .returned (.tuple #[.slice p1 (scanN F e N 0 σ Rd.no).2.1.length c1, vZ (scanN F e N 0 σ Rd.no).2.2]) ∧ Own hs hz.size 9 1 (.slice p1 (scanN F e N 0 σ Rd.no).2.1.length c1) (scanN F e N 0 σ Rd.no).2.1.length ((scanN F e N 0 σ Rd.no).2.1.map Value.string) := by
    intro hs τ' X y D e1
    rw [e1]
    exact ⟨y, D, p, c, rfl, X⟩
  refine ⟨fun hc => ?_, fun hc => ?_⟩
  rotate_left
  · have hc : ¬ (i : Int) < N := of_decide_eq_false hc
    rw [show N - i = 0 by omega] at hrun
    exact ⟨p, R.recs.length, c, cellsAt_one (cellH_at cr), fin row y D hrun⟩
  have hc : (i : Int) < N := of_decide_eq_true hc
  obtain ⟨m, hm1⟩ : ∃ m, N - i = m + 1 := ⟨N - i - 1, by omega⟩
  rw [hm1, scanN] at hrun
  have hyz := y.size
  have hB : ∀ {b}, hz.size ≤ b → ¬ B b := fun hb hx => by have := hlt _ hx; omega
  have hrz : hz.size ≤ r := by rw [hrb]; exact Nat.le_refl _
  have lr := (Array.getElem?_eq_some_iff.1 cr).1
  refine ⟨((F + i : Nat) : Int), by rw [wrapI64] <;> omega, (rGet_c D ((F + i : Nat) : Int)).mono ?_⟩
  rintro en h4 ⟨y4, D4, rfl⟩
  obtain ⟨g, hg⟩ : ∃ g, g = getF τ ((F + i : Nat) : Int) := ⟨_, rfl⟩
  rw [← hg] at hrun ⊢
  have gb : g.1.body.size ≤ 491 ∧ g.1.number < 18446744073709551616 := by rw [hg]; exact getF_body
  have cr4 := (y4.old r lr (hB hrz)).trans cr
  have row4 := row.keep fun b hb => y4.old b (row.lt hb).2 (hB (row.lt hb).1)
  have y04 : Same B hz h4 := y.trans y4 fun _ h _ => h
  refine ⟨_, _, _, _, _, rfl, ?_⟩
  intro b h5 hb e5
  rw [zerosFrame] at e5
  refine ⟨infoFrame, rfl, by simp [Value.oneCell'], wr_new (zs := frmV Frm.no) hb e5 rfl, ?_⟩
  intro h6 e6
  obtain ⟨x6, c6, _⟩ := new_set (zs := frmV Frm.no) (vs := frmV g.1) hb e5 rfl e6
  have cr6 := (x6.old r (Array.getElem?_eq_some_iff.1 cr4).1).trans cr4
  have row6 := row4.ext x6
  have D6 := D4.ext x6
  have y6 : Same B hz h6 := y04.trans (x6.same B) fun _ h _ => h
  clear e5 e6
  have f : ∀ {j : Nat} {v : Value}, (frmV g.1)[j]? = some v → cellsAt h6 b (0 + j) [v] := fun hv => by
    refine cellsAt_one (cellH_at c6 |>.trans ?_)
    rw [Nat.zero_add, ← hv]; simp
  refine ⟨fun h40 => ?_, fun h40 => ?_⟩
  · have h40 : g.2 = 40 := of_decide_eq_true h40
    rw [if_pos h40] at hrun
    rw [hrun, h40]
    exact ⟨y6, D6, none, 0, rfl, Own.nil _ _ _ _⟩
  have h40 : ¬ g.2 = 40 := of_decide_eq_false h40
  rw [if_neg h40] at hrun
  refine ⟨fun _ h7 => h7 = h6 ∧ mineF e i g = true, ⟨!mineF e i g, ⟨fun h1 => ⟨rfl, ?_⟩, fun h1 => ⟨_, f (j := 0) rfl, fun h2 => ⟨rfl, ?_⟩, fun h2 => ⟨_, f (j := 1) rfl, fun h3 => ⟨rfl, ?_⟩, fun h3 => ⟨_, f (j := 2) rfl, rfl, ?_⟩⟩⟩⟩, fun hB => ⟨p, R.recs.length, c, cellsAt_one (cellH_at cr6), fin row6 y6 D6 ?_⟩, fun hB => ⟨rfl, by simpa using hB⟩⟩, ?_⟩
  · have h1 : g.2 ≠ 0 := of_decide_eq_true h1
    rw [show mineF e i g = false from decide_eq_false fun h => h1 h.1]; rfl
  · have h2 : g.1.kind ≠ 3 := of_decide_eq_true h2
    rw [show mineF e i g = false from decide_eq_false fun h => h2 h.2.1]; rfl
  · have h3 : (g.1.number : Int) ≠ (e : Int) := of_decide_eq_true h3
    rw [show mineF e i g = false from decide_eq_false fun h => h3 (by rw [h.2.2.1])]; rfl
  · have h1 : ¬ g.2 ≠ 0 := of_decide_eq_false h1
    have h2 : ¬ g.1.kind ≠ 3 := of_decide_eq_false h2
    have h3 : ¬ (g.1.number : Int) ≠ (e : Int) := of_decide_eq_false h3
    by_cases h4 : g.1.index = (i : Int)
    · rw [show mineF e i g = true from decide_eq_true ⟨by omega, by omega, by omega, h4⟩]
      simp [h4]
    · rw [show mineF e i g = false from decide_eq_false fun h => h4 h.2.2.2]
      simp [h4]
  · rw [if_pos (by simpa using hB)] at hrun
    exact hrun
  rintro h7 ⟨rfl, hmine⟩
  rw [if_neg (by rw [hmine]; decide)] at hrun
  refine ⟨_, _, _, _, _, cellsAt_all (vs := metV R p c) cr6, _, f (j := 3) rfl, (mbody_c row6.seg hhl g.1.body (by omega) (by omega)).mono ?_⟩
  rintro en h8 ⟨x8, hbody⟩
  have cr8 := (x8.old r (Array.getElem?_eq_some_iff.1 cr6).1).trans cr6
  have row8 := row6.ext x8
  have y8 : Same B hz h8 := y6.trans (x8.same B) fun _ h _ => h
  have D8 := D6.ext x8
  rcases hbody with ⟨hbn, rfl⟩ | ⟨M, p', c', hbm, rfl, o8⟩
  · rw [hbn] at hrun
    refine ⟨_, _, _, _, _, _, rfl, ?_⟩
    intro b9 h9 hb9 e9
    rw [zerosMet] at e9
    refine ⟨infoMet, rfl, by simp [Value.oneCell'], wr_new (zs := [_, _, _]) hb9 e9 rfl, ?_⟩
    intro h10 e10
    obtain ⟨x10, _, _⟩ := new_set (zs := [_, _, _]) hb9 e9 (by rfl) e10
    refine ⟨fun _ => ⟨p, R.recs.length, c, cellsAt_one (cellH_at ((x10.old r (Array.getElem?_eq_some_iff.1 cr8).1).trans cr8)), fin (row8.ext x10) (y8.trans (x10.same B) fun _ h _ => h) (D8.ext x10) hrun⟩, fun hf => (by cases hf)⟩
  · rw [hbm] at hrun
    refine ⟨_, _, _, _, _, _, rfl, ?_⟩
    intro b9 h9 hb9 e9
    rw [zerosMet] at e9
    refine ⟨infoMet, rfl, by simp [Value.oneCell'], wr_new (zs := [_, _, _]) hb9 e9 rfl, ?_⟩
    intro h10 e10
    obtain ⟨x10, c10, _⟩ := new_set (zs := [_, _, _]) hb9 e9 (by rfl) e10
    have cr10 := (x10.old r (Array.getElem?_eq_some_iff.1 cr8).1).trans cr8
    refine ⟨fun hf => (by cases hf), fun _ => ⟨_, _, _, _, _, cellsAt_all (vs := metV M p' c') c10, rfl, by simp [Value.oneCell'], wrAt_of cr10 (by show 0 + 3 ≤ 3; omega) (.inr (.inr (Nat.le_refl _))), ?_⟩⟩
    intro h11 e11
    have cr11 : h11[r]? = some (.cells (metV M p' c').toArray 136) := by rw [e11, setsH_at cr10, layC_all (by rfl)]; rfl
    have kk : ∀ y, y ≠ r → h11[y]? = h10[y]? := fun y hy => by rw [e11]; exact setsH_ne hy
    have z11 : h11.size = h10.size := by rw [e11]; exact setsH_size
    have o10 := o8.ext x10
    have hzs : hz.size ≤ h7.size := y6.size
    obtain ⟨lm1, lm2⟩ := bodyR_len _ _ _ _ hbm
    rw [bl_length] at lm2
    refine ⟨_, incI (by omega), ⟨i + 1, M, p', c', _, rfl, by omega, cr11, ?_, lm1, ?_, ?_, by omega, by rw [hrun, show N - (i + 1) = m by omega]⟩, by simp only [numAt]; omega⟩
    · refine (o10.keep fun y hy => kk y ?_).rebase fun y hy => by have := (o8.lt hy).1; omega
      rintro rfl
      have := (o8.lt hy).1
      have := (Array.getElem?_eq_some_iff.1 cr6).1
      omega
    · have y10 : Same B hz h10 := y8.trans (x10.same B) fun _ h _ => h
      exact ⟨by rw [z11]; exact y10.size, fun y hy hn => (kk y (by omega)).trans (y10.old y hy hn)⟩
    · exact (D8.ext x10).keep (Nat.le_of_eq z11.symm) fun y hy => kk y fun e => hB hrz (e ▸ hy)

set_option maxHeartbeats 1000000 in
/-- turnoutref19.Last -/
theorem rlast_c (W : RefAt rI h B d σ) (first count : Int) (h1 : first ≤ 9223372036854775807) :
    CallsH Tryd.prog 46 #[vP d, vZ first, vZ count] h fun en hs => Same B h hs ∧ RefAt rI hs B d (lastF σ first count).1 ∧ en = .returned (.tuple #[vU (lastF σ first count).2.1, vZ (lastF σ first count).2.2]) := by
  have hm := W.ok.most
  have hlt := W.lt
  refine V46 _ _ _ h _ ((region_c W first count h1).mono ?_)
  rintro r hz ⟨rfl, rfl⟩
  refine ⟨_, rfl, fun hr => ?_, fun hr => ?_⟩
  · have hr : regionB σ.safe.length first count = false := by simpa using hr
    have e1 : lastF σ first count = (σ, 0, 1) := by unfold lastF; rw [if_neg (by rw [hr]; decide)]
    rw [e1]; exact ⟨Same.refl _ _, W, rfl⟩
  have hr : regionB σ.safe.length first count = true := by simpa using hr
  have e0 : lastF σ first count = lastN first.toNat count.toNat 0 σ 0 := by unfold lastF; rw [if_pos hr]
  have hrr : 0 ≤ first ∧ 1 ≤ count ∧ first < σ.safe.length ∧ count ≤ σ.safe.length - first := of_decide_eq_true hr
  obtain ⟨F, rfl⟩ : ∃ F : Nat, first = F := ⟨first.toNat, by omega⟩
  obtain ⟨N, rfl⟩ : ∃ N : Nat, count = N := ⟨count.toNat, by omega⟩
  rw [Int.toNat_natCast, Int.toNat_natCast] at e0
  rw [e0]
  refine ⟨fun l hq => ∃ (i n : Nat) (τ : DS), l = [vU n, vI i] ∧ i ≤ N ∧ Same B hz hq ∧ RefAt rI hq B d τ ∧ lastN F N 0 σ 0 = lastN F (N - i) i τ n,
    fun l _ => (N - numAt l 1).toNat, ⟨0, 0, σ, rfl, Nat.zero_le _, Same.refl _ _, W, rfl⟩, ?_⟩
  rintro n0 x hq ⟨i, n, τ, hl, hi, y, D, hrun⟩
  cases hl
  refine ⟨fun hc => ?_, fun hc => ?_⟩
  rotate_left
  · have hc : ¬ (i : Int) < N := of_decide_eq_false hc
    rw [show N - i = 0 by omega] at hrun
    rw [hrun]
    exact ⟨y, D, rfl⟩
  have hc : (i : Int) < N := of_decide_eq_true hc
  obtain ⟨m, hm1⟩ : ∃ m, N - i = m + 1 := ⟨N - i - 1, by omega⟩
  rw [hm1, lastN] at hrun
  refine ⟨((F + i : Nat) : Int), by rw [wrapI64] <;> omega, (rGet_c D ((F + i : Nat) : Int)).mono ?_⟩
  rintro en h4 ⟨y4, D4, rfl⟩
  obtain ⟨g, hg⟩ : ∃ g, g = getF τ ((F + i : Nat) : Int) := ⟨_, rfl⟩
  rw [← hg] at hrun ⊢
  have y04 : Same B hz h4 := y.trans y4 fun _ h _ => h
  refine ⟨_, _, _, _, _, rfl, ?_⟩
  intro b h5 hb e5
  rw [zerosFrame] at e5
  refine ⟨infoFrame, rfl, by simp [Value.oneCell'], wr_new (zs := frmV Frm.no) hb e5 rfl, ?_⟩
  intro h6 e6
  obtain ⟨x6, c6, _⟩ := new_set (zs := frmV Frm.no) (vs := frmV g.1) hb e5 rfl e6
  have D6 := D4.ext x6
  have y6 : Same B hz h6 := y04.trans (x6.same B) fun _ h _ => h
  clear e5 e6
  have f : ∀ {j : Nat} {v : Value}, (frmV g.1)[j]? = some v → cellsAt h6 b (0 + j) [v] := fun hv => by
    refine cellsAt_one (cellH_at c6 |>.trans ?_)
    rw [Nat.zero_add, ← hv]; simp
  refine ⟨fun h40 => ?_, fun h40 => ?_⟩
  · have h40 : g.2 = 40 := of_decide_eq_true h40
    rw [if_pos h40] at hrun
    rw [hrun, h40]
    exact ⟨y6, D6, rfl⟩
  have h40 : ¬ g.2 = 40 := of_decide_eq_false h40
  rw [if_neg h40] at hrun
  refine ⟨decide (g.2 = 0 ∧ g.1.kind = 3), ⟨fun h1 => ⟨_, f (j := 0) rfl, rfl, ?_⟩, fun h1 => ⟨rfl, ?_⟩⟩, fun hB => ?_, fun hB => ?_⟩
  · have h1 : g.2 = 0 := of_decide_eq_true h1
    apply decide_eq_decide.2; simp [h1]
  · have h1 : ¬ g.2 = 0 := of_decide_eq_false h1
    exact decide_eq_false fun h => h1 h.1
  · have hB := of_decide_eq_true hB
    rw [if_pos hB] at hrun
    refine ⟨_, f (j := 1) rfl, ((i + 1 : Nat) : Int), incI (by omega), ⟨i + 1, max n g.1.number, _, ?_, by omega, y6, D6, by rw [hrun, show N - (i + 1) = m by omega]⟩, by simp only [numAt]; omega⟩
    rw [maxN]
  · have hB := of_decide_eq_false hB
    rw [if_neg hB] at hrun
    exact ⟨((i + 1 : Nat) : Int), incI (by omega), ⟨i + 1, n, _, rfl, by omega, y6, D6, by rw [hrun, show N - (i + 1) = m by omega]⟩, by simp only [numAt]; omega⟩

end
end Go.Vc

/- Both logs are read. -/
namespace Go.Vc
open Go Go.Proofs Go.MapKept

/-! ## Two disks that differ in their reads go on alike -/

theorem stepped_rds (σ : DS) (r : Int) : DS.stepped { σ with reads := r } = { σ.stepped with reads := r } := by unfold DS.stepped; split <;> rfl

theorem Rds.write {σ τ : DS} (x : Rds σ τ) (n : Int) (s : ByteArray) : Rds (σ.write n s).1 (τ.write n s).1 ∧ (τ.write n s).2 = (σ.write n s).2 := by
  obtain ⟨r, rfl⟩ := x
  have ha : DS.asked { σ with reads := r } n = σ.asked n := rfl
  unfold DS.write
  rw [ha, stepped_rds σ r]
  split
  · split
    · split
      · exact ⟨⟨r, rfl⟩, rfl⟩
      · exact ⟨⟨r, rfl⟩, rfl⟩
    · exact ⟨⟨r, rfl⟩, rfl⟩
  · exact ⟨⟨r, rfl⟩, rfl⟩

theorem Rds.flush {σ τ : DS} (x : Rds σ τ) : Rds σ.flush.1 τ.flush.1 ∧ τ.flush.2 = σ.flush.2 := by
  obtain ⟨r, rfl⟩ := x
  have hg : DS.gone { σ with reads := r } = σ.gone := rfl
  unfold DS.flush
  rw [stepped_rds σ r, hg]
  split
  · exact ⟨⟨r, rfl⟩, rfl⟩
  · split
    · exact ⟨⟨r, rfl⟩, rfl⟩
    · exact ⟨⟨r, rfl⟩, rfl⟩

theorem Rds.readB {σ τ : DS} (x : Rds σ τ) (n : Int) : Rds (σ.read n).1 (τ.read n).1 ∧ (τ.read n).2 = (σ.read n).2 := by
  refine ⟨(Rds.read σ n).symm.trans (x.trans (Rds.read τ n)), ?_⟩
  obtain ⟨r, rfl⟩ := x
  have ha : DS.asked { σ with reads := r } n = σ.asked n := rfl
  unfold DS.read
  rw [ha]
  split <;> rfl

theorem Rds.put {σ τ : DS} (x : Rds σ τ) (n : Int) (f : Frm) : Rds (putF σ n f).1 (putF τ n f).1 ∧ (putF τ n f).2 = (putF σ n f).2 := by
  obtain ⟨y, e⟩ := x.readB n
  unfold putF
  rw [e]
  split
  · exact ⟨x, rfl⟩
  · split
    · exact ⟨y, rfl⟩
    · exact y.write n _

theorem Rds.cut {σ τ : DS} (x : Rds σ τ) (n : Int) : Rds (σ.cut n) (τ.cut n) := by
  obtain ⟨r, rfl⟩ := x
  unfold DS.cut
  show Rds _ (if σ.gone = true then _ else _)
  split <;> exact ⟨r, rfl⟩
theorem Rds.crash {σ τ : DS} (x : Rds σ τ) (fates : List (Int × Int)) : Rds (σ.crash fates) (τ.crash fates) := by
  obtain ⟨r, rfl⟩ := x
  exact ⟨r, rfl⟩


theorem scanN_same (first e : Nat) : ∀ (k i : Nat) (σ τ : DS) (R : Rd), Rds σ τ → (scanN first e k i τ R).2 = (scanN first e k i σ R).2 := by
  intro k
  induction k with
  | zero => intro i σ τ R x; rfl
  | succ k ih =>
    intro i σ τ R x
    rw [scanN, scanN, x.get]
    split
    · rfl
    · split
      · rfl
      · split
        · rfl
        · exact ih _ _ _ _ (x.readB _).1
theorem lastN_same (first : Nat) : ∀ (k i : Nat) (σ τ : DS) (n : Nat), Rds σ τ → (lastN first k i τ n).2 = (lastN first k i σ n).2 := by
  intro k
  induction k with
  | zero => intro i σ τ n x; rfl
  | succ k ih =>
    intro i σ τ n x
    rw [lastN, lastN, x.get]
    split
    · rfl
    · exact ih _ _ _ _ (x.readB _).1
theorem scanF_rds (σ : DS) (first count : Int) (e : Nat) : Rds σ (scanF σ first count e).1 := by
  unfold scanF
  split
  · exact scanN_rds _ _ _ _ _ _
  · exact Rds.refl σ
theorem lastF_rds (σ : DS) (first count : Int) : Rds σ (lastF σ first count).1 := by
  unfold lastF
  split
  · exact lastN_rds _ _ _ _ _
  · exact Rds.refl σ
theorem scanF_same {σ τ : DS} (x : Rds σ τ) (first count : Int) (e : Nat) : (scanF τ first count e).2 = (scanF σ first count e).2 := by
  unfold scanF
  rw [x.safe]
  split
  · exact scanN_same _ _ _ _ _ _ _ x
  · rfl
theorem lastF_same {σ τ : DS} (x : Rds σ τ) (first count : Int) : (lastF τ first count).2 = (lastF σ first count).2 := by
  unfold lastF
  rw [x.safe]
  split
  · exact lastN_same _ _ _ _ _ _ x
  · rfl

theorem scanN_len (first e : Nat) : ∀ (k i : Nat) (σ : DS) (R : Rd), (scanN first e k i σ R).2.1.length ≤ R.recs.length + 491 * k := by
  intro k
  induction k with
  | zero => intro i σ R; exact Nat.le_refl _
  | succ k ih =>
    intro i σ R
    rw [scanN]
    split
    · exact Nat.zero_le _
    · split
      · show R.recs.length ≤ _; omega
      · split
        · show R.recs.length ≤ _; omega
        · rename_i M hM
          have h1 := (bodyR_len _ _ _ _ hM).2
          have h2 := (@getF_body σ ((first + i : Nat) : Int)).1
          rw [bl_length] at h1
          have := ih (i + 1) (σ.read ((first + i : Nat) : Int)).1 M
          omega
theorem scanF_len {σ : DS} (hm : σ.safe.length ≤ 4096) (first count : Int) (e : Nat) : (scanF σ first count e).2.1.length ≤ 3000000 := by
  unfold scanF
  split
  · rename_i h
    have hr : regionB σ.safe.length first count = true := by
      cases hx : regionB σ.safe.length first count with
      | true => rfl
      | false => rw [hx] at h; cases h
    have hrr : 0 ≤ first ∧ 1 ≤ count ∧ first < σ.safe.length ∧ count ≤ σ.safe.length - first := of_decide_eq_true hr
    have := scanN_len first.toNat e count.toNat 0 σ Rd.no
    have h0 : Rd.no.recs.length = 0 := rfl
    omega
  · exact Nat.zero_le _

/-! ## The calls -/

def Or2 (B1 B2 : Nat → Prop) (b : Nat) : Prop := B1 b ∨ B2 b

section
variable {h : Hp} {B1 B2 : Nat → Prop} {d q s : Nat} {σ τ : DS} {a0 a1 : Addr} {lv mv : Value}

theorem Same.or1 {a b : Hp} (y : Same B1 a b) : Same (Or2 B1 B2) a b := y.more fun _ h _ => .inl h
theorem Same.or2 {a b : Hp} (y : Same B2 a b) : Same (Or2 B1 B2) a b := y.more fun _ h _ => .inr h

set_option maxHeartbeats 2000000 in
/-- turnoutlaw19.side.scans -/
theorem scans_c (X : DiskAt dI h B1 d σ) (Y : RefAt rI h B2 q τ) (x : Rds σ τ) (dis : ∀ b, B1 b → ¬ B2 b) (g : Gl (Or2 B1 B2) h a0 a1) (cs : h[s]? = some (.cells #[vP d, vP q, lv, mv] 64)) (ns : ¬ Or2 B1 B2 s) (first count : Int) (h1 : first ≤ 9223372036854775807) (e : Nat) :
    CallsH Tryd.prog 27 #[vP s, vZ first, vZ count, vU e] h fun en hs => ∃ σ' τ', Same (Or2 B1 B2) h hs ∧ DiskAt dI hs B1 d σ' ∧ RefAt rI hs B2 q τ' ∧ Rds σ σ' ∧ Rds τ τ' ∧ en = .returned (.bool true) := by
  have hm := X.ok.most
  have ls := (Array.getElem?_eq_some_iff.1 cs).1
  have at_ : ∀ {hq : Hp} {k : Nat} {v : Value}, hq[s]? = some (.cells #[vP d, vP q, lv, mv] 64) → [vP d, vP q, lv, mv][k]? = some v → cellsAt hq s (0 + k) [v] := fun c hv => by
    refine cellsAt_one (cellH_at c |>.trans ?_)
    rw [Nat.zero_add, ← hv]; simp
  have sub1 : ∀ b, B1 b → Or2 B1 B2 b := fun b h => .inl h
  obtain ⟨xs, cd, hxs⟩ : ∃ xs cd, (scanF σ first count e).2 = (xs, cd) := ⟨_, _, rfl⟩
  have hlen : xs.length ≤ 3000000 := by have := scanF_len hm first count e; rw [hxs] at this; exact this
  refine V27 _ _ _ _ h _ ⟨s, 0, rfl, _, at_ cs rfl, ?_⟩
  have g1 := g.sub sub1
  refine (scan_c X g1.er g1.hh g1.n0 g1.ne first count h1 e).mono ?_
  rintro _ h2 ⟨y2, X2, p, c, rfl, rx⟩
  have r2 := scanF_rds σ first count e
  rw [hxs] at rx ⊢
  generalize (scanF σ first count e).1 = σ2 at X2 r2
  have rx : Own h2 h.size 9 1 (.slice p xs.length c) xs.length (xs.map Value.string) := rx
  have Y2 : RefAt rI h2 B2 q τ := Y.other y2 fun b hb hc => dis b hc hb
  have g2 : Gl (Or2 B1 B2) h2 a0 a1 := g.kp (Kp.same y2.or1)
  have cs2 := (y2.or1.old s ls ns).trans cs
  have ls2 := (Array.getElem?_eq_some_iff.1 cs2).1
  refine ⟨p, xs.length, c, cd, rfl, s, 0, rfl, _, at_ cs2 rfl, ?_⟩
  have g2' := g2.sub sub1
  have hxs2 : (scanF σ2 first count e).2 = (xs, cd) := by rw [scanF_same r2]; exact hxs
  refine (scan_c X2 g2'.er g2'.hh g2'.n0 g2'.ne first count h1 e).mono ?_
  rintro _ h3 ⟨y3, X3, p3, c3, rfl, ry⟩
  have r3 := r2.trans (scanF_rds σ2 first count e)
  rw [hxs2] at ry ⊢
  generalize (scanF σ2 first count e).1 = σ3 at X3 r3
  have ry : Own h3 h2.size 9 1 (.slice p3 xs.length c3) xs.length (xs.map Value.string) := ry
  have hn1 : ∀ b, B1 b → b < h.size := X.lt
  have hn2 : ∀ b, B2 b → b < h.size := Y.lt
  have Y3 : RefAt rI h3 B2 q τ := Y2.other y3 fun b hb hc => dis b hc hb
  have rx3 := rx.keep fun b hb => y3.old b (rx.lt hb).2 fun hc => by have := (rx.lt hb).1; have := hn1 b hc; omega
  have y03 : Same (Or2 B1 B2) h h3 := y2.or1.trans y3.or1 fun _ h _ => h
  have cs3 := (y3.or1.old s ls2 ns).trans cs2
  refine ⟨p3, xs.length, c3, cd, rfl, s, 0, rfl, _, at_ cs3 rfl, ?_⟩
  have hxst : (scanF τ first count e).2 = (xs, cd) := by rw [scanF_same x]; exact hxs
  refine (rscan_c Y3 first count h1 e).mono ?_
  rintro _ h4 ⟨y4, Y4, p4, c4, rfl, rw4⟩
  have t4 := scanF_rds τ first count e
  rw [hxst] at rw4 ⊢
  generalize (scanF τ first count e).1 = τ4 at Y4 t4
  have rw4 : Own h4 h3.size 9 1 (.slice p4 xs.length c4) xs.length (xs.map Value.string) := rw4
  have X4 : DiskAt dI h4 B1 d σ3 := X3.other y4 fun b hb hc => dis b hb hc
  have s2 := y2.size
  have s3 := y3.size
  have s4 := y4.size
  have rx4 := rx3.keep fun b hb => y4.old b (rx3.lt hb).2 fun hc => by have := (rx3.lt hb).1; have := hn2 b hc; omega
  have ry4 := ry.keep fun b hb => y4.old b (ry.lt hb).2 fun hc => by have := (ry.lt hb).1; have := hn2 b hc; omega
  have y04 : Same (Or2 B1 B2) h h4 := y03.trans y4.or2 fun _ h _ => h
  refine ⟨p4, xs.length, c4, cd, rfl, (same_c rx4.segT rw4.segT (by omega)).mono ?_⟩
  rintro _ h4 ⟨rfl, rfl⟩
  rw [decide_eq_true rfl]
  -- what is known while the first list is spoiled
  have lx2 : ∀ {b : Nat}, (Value.slice p xs.length c).ownBlock = some b → h.size ≤ b ∧ b < h2.size := fun hb => ⟨(rx.lt hb).1, (rx.lt hb).2⟩
  let Kd : Hp → Prop := fun hq => Same (Or2 B1 B2) h hq ∧ DiskAt dI hq B1 d σ3 ∧ RefAt rI hq B2 q τ4 ∧ Own hq h2.size 9 1 (.slice p3 xs.length c3) xs.length (xs.map Value.string) ∧ Own hq h3.size 9 1 (.slice p4 xs.length c4) xs.length (xs.map Value.string)
  have grow : ∀ {hq hr : Hp} {row : Option Nat}, Kd hq → h4.size ≤ hq.size → Grown hq hr row → (∀ b, row = some b → h.size ≤ b ∧ (b < h2.size ∨ h4.size ≤ b)) → Kd hr := by
    rintro hq hr row ⟨k1, k2, k3, k4, k5⟩ hz gr hrow
    have nb : ∀ b, b < h4.size → (Or2 B1 B2 b ∨ b < h.size ∨ h2.size ≤ b) → hr[b]? = hq[b]? := fun b hb ho => gr.block b (by omega) fun e => by
      have := hrow b e.symm
      rcases ho with (ho | ho) | ho | ho
      · have := hn1 b ho; omega
      · have := hn2 b ho; omega
      · omega
      · omega
    refine ⟨⟨by have := k1.size; have := gr.size; omega, fun b hb hn => (nb b (by omega) (.inr (.inl hb))).trans (k1.old b hb hn)⟩, k2.keep gr.size fun b hb => nb b (by have := hn1 b hb; omega) (.inl (.inl hb)), k3.keep gr.size fun b hb => nb b (by have := hn2 b hb; omega) (.inl (.inr hb)), k4.keep fun b hb => nb b (ry4.lt hb).2 (.inr (.inr (ry4.lt hb).1)), k5.keep fun b hb => nb b (rw4.lt hb).2 (.inr (.inr (by have := (rw4.lt hb).1; omega)))⟩
  have K4 : Kd h4 := ⟨y04, X4, Y4, ry4, rw4⟩
  refine ⟨_, rfl, fun l hq => ∃ (i : Nat) (zs : List Value), l = [vI i] ∧ i ≤ xs.length ∧ zs.length = xs.length ∧ h4.size ≤ hq.size ∧ Kd hq ∧ Own hq h.size 9 1 (.slice p xs.length c) xs.length zs, fun l _ => (xs.length - numAt l 0).toNat, ⟨0, _, rfl, Nat.zero_le _, by simp, Nat.le_refl _, K4, rx4⟩, ?_⟩
  rintro i0 hq ⟨i, zs, hl, hi, hz, hs4, K, o⟩
  cases hl
  refine ⟨fun hc => ?_, fun hc => ?_⟩
  · have hc : i < xs.length := by have := of_decide_eq_true hc; omega
    refine o.store hc rfl fun hr o' g' hsz => ?_
    exact ⟨_, incI (by omega), ⟨i + 1, _, rfl, hc, by simp [hz], by omega, grow K hs4 g' fun b hb => ⟨(lx2 hb).1, .inl (lx2 hb).2⟩, o'⟩, by simp only [numAt]; omega⟩
  refine ⟨fun l hr => ∃ (j : Nat) (n : Nat) (p' : Option Addr) (c' : Nat) (zs : List Value), l = [.slice p' n c', vI j] ∧ j ≤ 5 ∧ n = xs.length + j ∧ h4.size ≤ hr.size ∧ Kd hr ∧ Own hr h.size 9 1 (.slice p' n c') n zs ∧ (∀ b, (Value.slice p' n c').ownBlock = some b → b < h2.size ∨ h4.size ≤ b), fun l _ => (5 - numAt l 1).toNat, ⟨0, xs.length, p, c, zs, rfl, by omega, rfl, hs4, K, o, fun b hb => .inl (lx2 hb).2⟩, ?_⟩
  rintro p' n c' j0 hr ⟨j, n', p'', c'', zs', hl, hj, hn, hs5, K', o', hb'⟩
  cases hl
  refine ⟨fun hc => ?_, fun hc => ?_⟩
  · have hc : j < 5 := by have := of_decide_eq_true hc; omega
    have hso : h.size ≤ hr.size := by omega
    refine semH_push rowS o' (vs := [.string (⟨#[109, 105, 110, 101]⟩ : ByteArray)]) (m := 1) rfl rfl (by simp) (by simp) (by simp [Value.oneCell']) (by omega) (by simp only [maxLen]; omega) hso fun p6 c6 h6 o6 g6 _ b6 => ?_
    refine ⟨_, incI (by omega), ⟨j + 1, n + 1, p6, c6, _, rfl, by omega, by omega, by have := g6.size; omega, grow K' hs5 g6 fun b hb => ⟨(o'.lt hb).1, hb' b hb⟩, o6, fun b hb => ?_⟩, by simp only [numAt]; omega⟩
    rcases b6 with e | ⟨b'', e, hl⟩
    · rw [e] at hb; exact hb' b hb
    · rw [e] at hb; cases hb; exact .inr (by omega)
  obtain ⟨k1, k2, k3, k4, k5⟩ := K'
  refine (same_c k4.segT k5.segT (by omega)).mono ?_
  rintro _ h9 ⟨rfl, rfl⟩
  exact ⟨_, rfl, true, ⟨fun _ => ⟨fun _ => ⟨fun _ => ⟨rfl, by simp⟩, fun hf => (by simp at hf)⟩, fun hf => (by simp at hf)⟩, fun hf => (by cases hf)⟩, σ3, τ4, k1, k2, k3, r3, t4, rfl⟩

/-- turnoutlaw19.side.last -/
theorem lasts_c (X : DiskAt dI h B1 d σ) (Y : RefAt rI h B2 q τ) (x : Rds σ τ) (dis : ∀ b, B1 b → ¬ B2 b) (g : Gl (Or2 B1 B2) h a0 a1) (cs : h[s]? = some (.cells #[vP d, vP q, lv, mv] 64)) (ns : ¬ Or2 B1 B2 s) (first count : Int) (h1 : first ≤ 9223372036854775807) :
    CallsH Tryd.prog 28 #[vP s, vZ first, vZ count] h fun en hs => ∃ σ' τ', Same (Or2 B1 B2) h hs ∧ DiskAt dI hs B1 d σ' ∧ RefAt rI hs B2 q τ' ∧ Rds σ σ' ∧ Rds τ τ' ∧ en = .returned (.bool true) := by
  have ls := (Array.getElem?_eq_some_iff.1 cs).1
  have at_ : ∀ {hq : Hp} {k : Nat} {v : Value}, hq[s]? = some (.cells #[vP d, vP q, lv, mv] 64) → [vP d, vP q, lv, mv][k]? = some v → cellsAt hq s (0 + k) [v] := fun c hv => by
    refine cellsAt_one (cellH_at c |>.trans ?_)
    rw [Nat.zero_add, ← hv]; simp
  have g1 := g.sub (D := B1) fun b h => .inl h
  refine V28 _ _ _ h _ ⟨s, 0, rfl, _, at_ cs rfl, (last_c X g1.hh g1.n0 first count h1).mono ?_⟩
  rintro _ h2 ⟨y2, X2, rfl⟩
  have cs2 := (y2.or1.old s ls ns).trans cs
  have Y2 : RefAt rI h2 B2 q τ := Y.other y2 fun b hb hc => dis b hc hb
  refine ⟨_, _, rfl, s, 0, rfl, _, at_ cs2 rfl, (rlast_c Y2 first count h1).mono ?_⟩
  rintro _ h3 ⟨y3, Y3, rfl⟩
  rw [lastF_same x]
  exact ⟨_, _, rfl, true, ⟨fun _ => ⟨rfl, by simp⟩, fun hf => (by simp at hf)⟩, _, _, y2.or1.trans y3.or2 fun _ h _ => h, X2.other y3 fun b hb hc => dis b hb hc, Y3, lastF_rds _ _ _, lastF_rds _ _ _, rfl⟩

end
end Go.Vc

