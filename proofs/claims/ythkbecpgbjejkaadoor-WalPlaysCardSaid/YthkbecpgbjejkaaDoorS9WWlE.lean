/- The log is read: Scan and Last. -/
import Derived.Test.YthkbecpgbjejkaaDoorS9WWlD
set_option maxRecDepth 10000
namespace Go.Vc
open Go Go.Proofs Go.MapKept

theorem openF_body {s : ByteArray} : (openF s).1.body.size ≤ 491 ∧ (openF s).1.number < 18446744073709551616 := by
  have no : Frm.no.body.size ≤ 491 ∧ Frm.no.number < 18446744073709551616 := by decide
  unfold openF
  split
  · exact no
  · split
    · exact no
    · split
      · exact no
      · split
        · exact no
        · rename_i h
          split
          · exact no
          · refine ⟨?_, ?_⟩
            · show (s.extract 16 (16 + numL (((bl s).drop 14).take 2))).size ≤ 491
              rw [ByteArray.size_extract]; omega
            · show numL (((bl s).drop 2).take 8) < _
              have := numL_small (l := ((bl s).drop 2).take 8) (k := 8) (by rw [List.length_take]; omega)
              exact this

theorem getF_body {σ : DS} {n : Int} : (getF σ n).1.body.size ≤ 491 ∧ (getF σ n).1.number < 18446744073709551616 := by
  unfold getF
  split
  · exact (by decide : Frm.no.body.size ≤ 491 ∧ Frm.no.number < 18446744073709551616)
  · exact openF_body

/-! ## What is told -/

/-- Is a frame the log's next one? -/
def mineF (e i : Nat) (g : Frm × Int) : Bool := decide (g.2 = 0 ∧ g.1.kind = 3 ∧ g.1.number = e ∧ g.1.index = i)
def scanN (first e : Nat) : Nat → Nat → DS → Rd → DS × List ByteArray × Int
  | 0, _, σ, R => (σ, R.recs, 0)
  | k + 1, i, σ, R =>
    if (getF σ ((first + i : Nat) : Int)).2 = 40 then ((σ.read ((first + i : Nat) : Int)).1, [], 40)
    else if mineF e i (getF σ ((first + i : Nat) : Int)) = false then ((σ.read ((first + i : Nat) : Int)).1, R.recs, 0)
    else match bodyF (bl (getF σ ((first + i : Nat) : Int)).1.body) R with
      | none => ((σ.read ((first + i : Nat) : Int)).1, R.recs, 0)
      | some M => scanN first e k (i + 1) (σ.read ((first + i : Nat) : Int)).1 M
def scanF (σ : DS) (first count : Int) (e : Nat) : DS × List ByteArray × Int :=
  if (regionB σ.safe.length first count && epochB e) = true then scanN first.toNat e count.toNat 0 σ Rd.no else (σ, [], 1)

def lastN (first : Nat) : Nat → Nat → DS → Nat → DS × Nat × Int
  | 0, _, σ, n => (σ, n, 0)
  | k + 1, i, σ, n =>
    if (getF σ ((first + i : Nat) : Int)).2 = 40 then ((σ.read ((first + i : Nat) : Int)).1, 0, 40)
    else lastN first k (i + 1) (σ.read ((first + i : Nat) : Int)).1 (if (getF σ ((first + i : Nat) : Int)).2 = 0 ∧ (getF σ ((first + i : Nat) : Int)).1.kind = 3 then max n (getF σ ((first + i : Nat) : Int)).1.number else n)
def lastF (σ : DS) (first count : Int) : DS × Nat × Int :=
  if regionB σ.safe.length first count = true then lastN first.toNat count.toNat 0 σ 0 else (σ, 0, 1)

theorem maxN (a b : Nat) : max (a : Int) (b : Int) = ((max a b : Nat) : Int) := by omega

section
variable {h : Hp} {B : Nat → Prop} {d : Nat} {σ : DS} {a0 a1 : Addr}

theorem Errs.same {hs : Hp} (G : Errs h a0 a1) (y : Same B h hs) (hE : ∀ b, (b = 0 ∨ b = 1 ∨ b = a0.block ∨ b = a1.block) → ¬ B b) : Errs hs a0 a1 :=
  G.keep fun b _ e hb => (y.old b (Array.getElem?_eq_some_iff.1 e).1 (hE b hb)).trans e
theorem Errs.lt (G : Errs h a0 a1) {b : Nat} (hb : b = 0 ∨ b = 1 ∨ b = a0.block ∨ b = a1.block) : b < h.size := by
  obtain ⟨⟨_, e0⟩, ⟨_, e1⟩, ⟨_, _, f0⟩, ⟨_, _, f1⟩⟩ := G
  rcases hb with rfl | rfl | rfl | rfl
  · exact (Array.getElem?_eq_some_iff.1 e0).1
  · exact (Array.getElem?_eq_some_iff.1 e1).1
  · exact (Array.getElem?_eq_some_iff.1 f0).1
  · exact (Array.getElem?_eq_some_iff.1 f1).1

set_option maxHeartbeats 2000000 in
/-- wal.Scan -/
theorem scan_c (W : DiskAt dI h B d σ) (G : Errs h a0 a1) (hh : Halves h) (h0 : ¬ B 2) (hE : ∀ b, (b = 0 ∨ b = 1 ∨ b = a0.block ∨ b = a1.block) → ¬ B b) (first count : Int) (h1 : first ≤ 9223372036854775807) (e : Nat) :
    CallsH Tryd.prog 15 #[vP d, vZ first, vZ count, vU e] h fun en hs => Same B h hs ∧ DiskAt dI hs B d (scanF σ first count e).1 ∧
      ∃ p c, en = .returned (.tuple #[.slice p (scanF σ first count e).2.1.length c, vZ (scanF σ first count e).2.2]) ∧ Own hs h.size 9 1 (.slice p (scanF σ first count e).2.1.length c) (scanF σ first count e).2.1.length ((scanF σ first count e).2.1.map Value.string) := by
  have hm := W.ok.most
  refine V15 _ _ _ _ h _ ⟨fun _ hq => hq = h ∧ (regionB σ.safe.length first count && epochB e) = true, ?_, ?_⟩
  · have fin : (regionB σ.safe.length first count && epochB e) = false → Same B h h ∧ DiskAt dI h B d (scanF σ first count e).1 ∧
        ∃ p c, (Ending.returned (.tuple #[.slice none 0 0, vZ 1])) = .returned (.tuple #[.slice p (scanF σ first count e).2.1.length c, vZ (scanF σ first count e).2.2]) ∧ Own h h.size 9 1 (.slice p (scanF σ first count e).2.1.length c) (scanF σ first count e).2.1.length ((scanF σ first count e).2.1.map Value.string) := by
      intro hf
      have e1 : scanF σ first count e = (σ, [], 1) := by unfold scanF; rw [if_neg (by rw [hf]; decide)]
      rw [e1]
      exact ⟨Same.refl _ _, W, none, 0, rfl, Own.nil _ _ _ _⟩
    refine (wright_c W first count h1).mono ?_
    rintro r h' ⟨rfl, rfl⟩
    refine ⟨_, rfl, fun hr => fin ?_, fun hr => ⟨fun h1 => fin ?_, fun h1 => ⟨fun h2 => fin ?_, fun h2 => ⟨rfl, ?_⟩⟩⟩⟩
    · rw [show regionB σ.safe.length first count = false by simpa using hr]; rfl
    · have h1 := of_decide_eq_true h1
      rw [show epochB e = false from decide_eq_false (by omega)]; simp
    · have h2 := of_decide_eq_true h2
      rw [show epochB e = false from decide_eq_false (by omega)]; simp
    · have h1 := of_decide_eq_false h1
      have h2 := of_decide_eq_false h2
      rw [show regionB σ.safe.length first count = true by simpa using hr, show epochB e = true from decide_eq_true (by omega)]; rfl
  rintro hz ⟨rfl, hok⟩
  have e0 : scanF σ first count e = scanN first.toNat e count.toNat 0 σ Rd.no := by unfold scanF; rw [if_pos hok]
  obtain ⟨hr, he⟩ : regionB σ.safe.length first count = true ∧ epochB e = true := by simpa using hok
  have hrr : 0 ≤ first ∧ 1 ≤ count ∧ first < σ.safe.length ∧ count ≤ σ.safe.length - first := of_decide_eq_true hr
  obtain ⟨F, rfl⟩ : ∃ F : Nat, first = F := ⟨first.toNat, by omega⟩
  obtain ⟨N, rfl⟩ : ∃ N : Nat, count = N := ⟨count.toNat, by omega⟩
  rw [Int.toNat_natCast, Int.toNat_natCast] at e0
  rw [e0]
  clear e0 he hok hr
  intro r h2 hrb e2
  have x2 : Ext hz h2 := by rw [e2]; exact Ext.push _ _
  have c2 : h2[r]? = some (.cells (rdV Rd.no none 0 none 0).toArray 92) := by rw [e2, hrb]; exact push_last
  have W2 : RdX h2 r Rd.no none 0 none 0 := ⟨c2, Own.nil _ _ _ _, Own.nil _ _ _ _, Nat.zero_le _⟩
  clear e2
  have hlt := W.lt
  refine ⟨fun l hq => ∃ (i : Nat) (R : Rd) (p : Option Addr) (c : Nat) (q : Option Addr) (k : Nat) (τ : DS), l = [vI i] ∧ i ≤ N ∧ RdX hq r R p c q k ∧ Same B hz hq ∧ DiskAt dI hq B d τ ∧ R.recs.length ≤ 491 * i ∧
      (∀ b, (Value.slice p R.recs.length c).ownBlock = some b → hz.size ≤ b) ∧ (∀ b, (Value.slice q R.half.length k).ownBlock = some b → hz.size ≤ b) ∧ scanN F e N 0 σ Rd.no = scanN F e (N - i) i τ R,
    fun l _ => (N - numAt l 0).toNat, ⟨0, Rd.no, none, 0, none, 0, σ, rfl, Nat.zero_le _, W2, x2.same _, W.ext x2, Nat.zero_le _, fun b hb => (by cases hb), fun b hb => (by cases hb), rfl⟩, ?_⟩
  rintro x hq ⟨i, R, p, c, q, k, τ, hl, hi, X, y, D, hrl, bp, bq, hrun⟩
  cases hl
  have fin : ∀ {hs : Hp} {τ' : DS} {n : Int}, RdX hs r R p c q k → Same B hz hs → DiskAt dI hs B d τ' → scanN F e N 0 σ Rd.no = (τ', R.recs, 0) → Same B hz hs ∧ DiskAt dI hs B d (scanN F e N 0 σ Rd.no).1 ∧
      ∃ p1 c1, (Ending.returned (.tuple #[.slice p R.recs.length c, vZ 0])) = .returned (.tuple #[.slice p1 (scanN F e N 0 σ Rd.no).2.1.length c1, vZ (scanN F e N 0 σ Rd.no).2.2]) ∧ Own hs hz.size 9 1 (.slice p1 (scanN F e N 0 σ Rd.no).2.1.length c1) (scanN F e N 0 σ Rd.no).2.1.length ((scanN F e N 0 σ Rd.no).2.1.map Value.string) := by
    intro hs τ' n X y D e1
    rw [e1]
    exact ⟨y, D, p, c, rfl, X.recs.rebase bp⟩
  refine ⟨fun hc => ?_, fun hc => ?_⟩
  rotate_left
  · have hc : ¬ (i : Int) < N := of_decide_eq_false hc
    rw [show N - i = 0 by omega] at hrun
    exact ⟨p, R.recs.length, c, X.at rfl, fin (n := 0) X y D hrun⟩
  have hc : (i : Int) < N := of_decide_eq_true hc
  obtain ⟨m, hm1⟩ : ∃ m, N - i = m + 1 := ⟨N - i - 1, by omega⟩
  rw [hm1, scanN] at hrun
  have hyz := y.size
  have hB : ∀ {b}, hz.size ≤ b → ¬ B b := fun hb hx => by have := hlt _ hx; omega
  have hrz : hz.size ≤ r := by rw [hrb]; exact Nat.le_refl _
  have Gq := G.same y hE
  have hhq := hh.same y h0
  refine ⟨((F + i : Nat) : Int), by rw [wrapI64] <;> omega, (get_c D hhq h0 ((F + i : Nat) : Int)).mono ?_⟩
  rintro en h4 ⟨y4, D4, rfl⟩
  obtain ⟨g, hg⟩ : ∃ g, g = getF τ ((F + i : Nat) : Int) := ⟨_, rfl⟩
  rw [← hg] at hrun ⊢
  have gb : g.1.body.size ≤ 491 ∧ g.1.number < 18446744073709551616 := by rw [hg]; exact getF_body
  have X4 : RdX h4 r R p c q k := X.keep fun b hb => y4.old b (by
      rcases hb with rfl | hb | hb
      · exact X.lt
      · exact (X.recs.lt hb).2
      · exact (X.half.lt hb).2) (hB (by
      rcases hb with rfl | hb | hb
      · exact hrz
      · exact bp b hb
      · exact bq b hb))
  have y04 : Same B hz h4 := y.trans y4 fun _ h _ => h
  refine ⟨_, _, _, _, _, rfl, ?_⟩
  intro b h5 hb e5
  rw [zerosFrame] at e5
  refine ⟨infoFrame, rfl, by simp [Value.oneCell'], wr_new (zs := frmV Frm.no) hb e5 rfl, ?_⟩
  intro h6 e6
  obtain ⟨x6, c6, _⟩ := new_set (zs := frmV Frm.no) (vs := frmV g.1) hb e5 rfl e6
  have X6 := X4.ext x6
  have D6 := D4.ext x6
  have y6 : Same B hz h6 := y04.trans (x6.same B) fun _ h _ => h
  clear e5 e6
  have f : ∀ {j : Nat} {v : Value}, (frmV g.1)[j]? = some v → cellsAt h6 b (0 + j) [v] := fun hv => by
    refine cellsAt_one (cellH_at c6 |>.trans ?_)
    rw [Nat.zero_add, ← hv]; simp
  refine ⟨fun h40 => ?_, fun h40 => ?_⟩
  · have h40 : g.2 = 40 := of_decide_eq_true h40
    rw [if_pos h40] at hrun
    rw [hrun, h40]
    exact ⟨y6, D6, none, 0, rfl, Own.nil _ _ _ _⟩
  have h40 : ¬ g.2 = 40 := of_decide_eq_false h40
  rw [if_neg h40] at hrun
  refine ⟨fun _ h7 => h7 = h6 ∧ mineF e i g = true, ⟨!mineF e i g, ⟨fun h1 => ⟨rfl, ?_⟩, fun h1 => ⟨_, f (j := 0) rfl, fun h2 => ⟨rfl, ?_⟩, fun h2 => ⟨_, f (j := 1) rfl, fun h3 => ⟨rfl, ?_⟩, fun h3 => ⟨_, f (j := 2) rfl, rfl, ?_⟩⟩⟩⟩, fun hB => ⟨p, R.recs.length, c, X6.at rfl, fin (n := 0) X6 y6 D6 ?_⟩, fun hB => ⟨rfl, by simpa using hB⟩⟩, ?_⟩
  · have h1 : g.2 ≠ 0 := of_decide_eq_true h1
    rw [show mineF e i g = false from decide_eq_false fun h => h1 h.1]; rfl
  · have h2 : g.1.kind ≠ 3 := of_decide_eq_true h2
    rw [show mineF e i g = false from decide_eq_false fun h => h2 h.2.1]; rfl
  · have h3 : (g.1.number : Int) ≠ (e : Int) := of_decide_eq_true h3
    rw [show mineF e i g = false from decide_eq_false fun h => h3 (by rw [h.2.2.1])]; rfl
  · have h1 : ¬ g.2 ≠ 0 := of_decide_eq_false h1
    have h2 : ¬ g.1.kind ≠ 3 := of_decide_eq_false h2
    have h3 : ¬ (g.1.number : Int) ≠ (e : Int) := of_decide_eq_false h3
    by_cases h4 : g.1.index = (i : Int)
    · rw [show mineF e i g = true from decide_eq_true ⟨by omega, by omega, by omega, h4⟩]
      simp [h4]
    · rw [show mineF e i g = false from decide_eq_false fun h => h4 h.2.2.2]
      simp [h4]
  · rw [if_pos (by simpa using hB)] at hrun
    exact hrun
  rintro h7 ⟨rfl, hmine⟩
  rw [if_neg (by rw [hmine]; decide)] at hrun
  have G6 := G.same y6 hE
  have hrl' : R.recs.length ≤ 491 * 4096 := by omega
  refine ⟨_, f (j := 3) rfl, (body_c X6 G6 g.1.body (by omega) (by omega) fun b' hb' => ?_).mono ?_⟩
  · have := G.lt hb'
    refine ⟨by omega, fun e => ?_⟩
    have := bp b' e; omega
  rintro en h8 (⟨hbn, hen, X8, y8⟩ | ⟨M, p', c', q', k', hbm, rfl, X8, y8, i8, j8⟩)
  · rw [hbn] at hrun
    have y08 : Same B hz h8 := y6.trans y8 fun x hx hl => by have := bp x hx; omega
    have D8 : DiskAt dI h8 B d (τ.read ((F + i : Nat) : Int)).1 := D6.other y8 fun x hx e => by have := bp x e; have := hlt x hx; omega
    have G8 := G.same y08 hE
    have fin8 := fin (n := 0) X8 y08 D8 hrun
    rcases hen with rfl | rfl
    · refine ⟨_, rfl, true, ⟨_, G8.at0, rfl, _, eqh_err G8.c0 G8.c0, fun _ => ⟨rfl, rfl⟩, fun hf => (by simp at hf)⟩, fun _ => ⟨p, R.recs.length, c, X8.at rfl, fin8⟩, fun hf => (by cases hf)⟩
    · refine ⟨_, rfl, true, ⟨_, G8.at0, rfl, _, eqh_err G8.c1 G8.c0, fun _ => ⟨rfl, rfl⟩, fun _ => ⟨_, G8.at1, rfl, _, eqh_err G8.c1 G8.c1, rfl, by simp⟩⟩, fun _ => ⟨p, R.recs.length, c, X8.at rfl, fin8⟩, fun hf => (by cases hf)⟩
  · rw [hbm] at hrun
    have y08 : Same B hz h8 := y6.trans y8 fun x hx hl => by
      rcases hx with rfl | hx
      · omega
      · have := bp x hx; omega
    have D8 : DiskAt dI h8 B d (τ.read ((F + i : Nat) : Int)).1 := D6.other y8 fun x hx e => by
      have := hlt x hx
      rcases e with rfl | e
      · omega
      · have := bp x e; omega
    have G8 := G.same y08 hE
    have hlen := (bodyR_len _ _ _ _ hbm).2
    rw [bl_length] at hlen
    have y6s := y6.size
    refine ⟨_, rfl, false, ⟨_, G8.at0, rfl, _, eqh_err_nil, fun hf => (by cases hf), fun _ => ⟨_, G8.at1, rfl, _, eqh_err_nil, rfl, rfl⟩⟩, fun hf => (by cases hf), fun _ => ⟨((i + 1 : Nat) : Int), incI (by omega), ⟨i + 1, M, p', c', q', k', _, rfl, by omega, X8, y08, D8, by omega, fun x hx => ?_, fun x hx => ?_, ?_⟩, by simp only [numAt]; omega⟩⟩
    · rcases i8 x hx with e | e
      · exact bp x e
      · omega
    · have := j8 x hx; omega
    · rw [hrun, show N - (i + 1) = m by omega]

theorem scan_nil (first count : Int) (e : Nat) (h : Hp) : CallsH Tryd.prog 15 #[.pointer none, vZ first, vZ count, vU e] h fun en hs => hs = h ∧ en = .returned (.tuple #[.slice none 0 0, vZ 1]) := by
  refine V15 _ _ _ _ h _ ⟨fun _ _ => False, ?_, fun _ hf => hf.elim⟩
  refine (wright_nil first count h).mono ?_
  rintro r h' ⟨rfl, rfl⟩
  exact ⟨_, rfl, fun _ => ⟨rfl, rfl⟩, fun hf => (by cases hf)⟩

set_option maxHeartbeats 1000000 in
/-- wal.Last -/
theorem last_c (W : DiskAt dI h B d σ) (hh : Halves h) (h0 : ¬ B 2) (first count : Int) (h1 : first ≤ 9223372036854775807) :
    CallsH Tryd.prog 16 #[vP d, vZ first, vZ count] h fun en hs => Same B h hs ∧ DiskAt dI hs B d (lastF σ first count).1 ∧ en = .returned (.tuple #[vU (lastF σ first count).2.1, vZ (lastF σ first count).2.2]) := by
  have hm := W.ok.most
  have hlt := W.lt
  refine V16 _ _ _ h _ ((wright_c W first count h1).mono ?_)
  rintro r hz ⟨rfl, rfl⟩
  refine ⟨_, rfl, fun hr => ?_, fun hr => ?_⟩
  · have hr : regionB σ.safe.length first count = false := by simpa using hr
    have e1 : lastF σ first count = (σ, 0, 1) := by unfold lastF; rw [if_neg (by rw [hr]; decide)]
    rw [e1]; exact ⟨Same.refl _ _, W, rfl⟩
  have hr : regionB σ.safe.length first count = true := by simpa using hr
  have e0 : lastF σ first count = lastN first.toNat count.toNat 0 σ 0 := by unfold lastF; rw [if_pos hr]
  have hrr : 0 ≤ first ∧ 1 ≤ count ∧ first < σ.safe.length ∧ count ≤ σ.safe.length - first := of_decide_eq_true hr
  obtain ⟨F, rfl⟩ : ∃ F : Nat, first = F := ⟨first.toNat, by omega⟩
  obtain ⟨N, rfl⟩ : ∃ N : Nat, count = N := ⟨count.toNat, by omega⟩
  rw [Int.toNat_natCast, Int.toNat_natCast] at e0
  rw [e0]
  refine ⟨fun l hq => ∃ (i n : Nat) (τ : DS), l = [vU n, vI i] ∧ i ≤ N ∧ Same B hz hq ∧ DiskAt dI hq B d τ ∧ lastN F N 0 σ 0 = lastN F (N - i) i τ n,
    fun l _ => (N - numAt l 1).toNat, ⟨0, 0, σ, rfl, Nat.zero_le _, Same.refl _ _, W, rfl⟩, ?_⟩
  rintro n0 x hq ⟨i, n, τ, hl, hi, y, D, hrun⟩
  cases hl
  refine ⟨fun hc => ?_, fun hc => ?_⟩
  rotate_left
  · have hc : ¬ (i : Int) < N := of_decide_eq_false hc
    rw [show N - i = 0 by omega] at hrun
    rw [hrun]
    exact ⟨y, D, rfl⟩
  have hc : (i : Int) < N := of_decide_eq_true hc
  obtain ⟨m, hm1⟩ : ∃ m, N - i = m + 1 := ⟨N - i - 1, by omega⟩
  rw [hm1, lastN] at hrun
  refine ⟨((F + i : Nat) : Int), by rw [wrapI64] <;> omega, (get_c D (hh.same y h0) h0 ((F + i : Nat) : Int)).mono ?_⟩
  rintro en h4 ⟨y4, D4, rfl⟩
  obtain ⟨g, hg⟩ : ∃ g, g = getF τ ((F + i : Nat) : Int) := ⟨_, rfl⟩
  rw [← hg] at hrun ⊢
  have y04 : Same B hz h4 := y.trans y4 fun _ h _ => h
  refine ⟨_, _, _, _, _, rfl, ?_⟩
  intro b h5 hb e5
  rw [zerosFrame] at e5
  refine ⟨infoFrame, rfl, by simp [Value.oneCell'], wr_new (zs := frmV Frm.no) hb e5 rfl, ?_⟩
  intro h6 e6
  obtain ⟨x6, c6, _⟩ := new_set (zs := frmV Frm.no) (vs := frmV g.1) hb e5 rfl e6
  have D6 := D4.ext x6
  have y6 : Same B hz h6 := y04.trans (x6.same B) fun _ h _ => h
  clear e5 e6
  have f : ∀ {j : Nat} {v : Value}, (frmV g.1)[j]? = some v → cellsAt h6 b (0 + j) [v] := fun hv => by
    refine cellsAt_one (cellH_at c6 |>.trans ?_)
    rw [Nat.zero_add, ← hv]; simp
  refine ⟨fun h40 => ?_, fun h40 => ?_⟩
  · have h40 : g.2 = 40 := of_decide_eq_true h40
    rw [if_pos h40] at hrun
    rw [hrun, h40]
    exact ⟨y6, D6, rfl⟩
  have h40 : ¬ g.2 = 40 := of_decide_eq_false h40
  rw [if_neg h40] at hrun
  refine ⟨decide (g.2 = 0 ∧ g.1.kind = 3), ⟨fun h1 => ⟨_, f (j := 0) rfl, rfl, ?_⟩, fun h1 => ⟨rfl, ?_⟩⟩, fun hB => ?_, fun hB => ?_⟩
  · have h1 : g.2 = 0 := of_decide_eq_true h1
    apply decide_eq_decide.2; simp [h1]
  · have h1 : ¬ g.2 = 0 := of_decide_eq_false h1
    exact decide_eq_false fun h => h1 h.1
  · have hB := of_decide_eq_true hB
    rw [if_pos hB] at hrun
    refine ⟨_, f (j := 1) rfl, ((i + 1 : Nat) : Int), incI (by omega), ⟨i + 1, max n g.1.number, _, ?_, by omega, y6, D6, by rw [hrun, show N - (i + 1) = m by omega]⟩, by simp only [numAt]; omega⟩
    rw [maxN]
  · have hB := of_decide_eq_false hB
    rw [if_neg hB] at hrun
    exact ⟨((i + 1 : Nat) : Int), incI (by omega), ⟨i + 1, n, _, rfl, by omega, y6, D6, by rw [hrun, show N - (i + 1) = m by omega]⟩, by simp only [numAt]; omega⟩

theorem last_nil (first count : Int) (h : Hp) : CallsH Tryd.prog 16 #[.pointer none, vZ first, vZ count] h fun en hs => hs = h ∧ en = .returned (.tuple #[vU 0, vZ 1]) := by
  refine V16 _ _ _ h _ ((wright_nil first count h).mono ?_)
  rintro r h' ⟨rfl, rfl⟩
  exact ⟨_, rfl, fun _ => ⟨rfl, rfl⟩, fun hf => (by cases hf)⟩

end
end Go.Vc
