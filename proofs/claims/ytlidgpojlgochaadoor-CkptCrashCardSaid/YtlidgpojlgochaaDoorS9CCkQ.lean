/- Turns that come in. -/
import Derived.Test.YtlidgpojlgochaaDoorS9CCkR
import Derived.Test.YtlidgpojlgochaaDoorS9CCkN
set_option maxRecDepth 10000
namespace Go.Vc
open Go Go.Proofs Go.ChangeShapes Go.WideShapes Go.ChangeAt Go.RowKit

theorem undTurns : Tryd.prog.underlying 41 = some (.slice 49) := by kernel_rfl
theorem cTurn : Tryd.prog.cellsOf 49 = 4 := by kernel_rfl
theorem undFates : Tryd.prog.underlying 47 = some (.slice 96) := by kernel_rfl
theorem cFate : Tryd.prog.cellsOf 96 = 2 := by kernel_rfl

theorem rows_of {α : Type} {f : α → List Value} {Q : α → Prop} : ∀ {rows : List (List Value)}, (∀ r ∈ rows, ∃ a, r = f a ∧ Q a) → ∃ l : List α, rows = l.map f ∧ ∀ a ∈ l, Q a := by
  intro rows
  induction rows with
  | nil => exact fun _ => ⟨[], rfl, by simp⟩
  | cons r rs ih =>
    intro h
    obtain ⟨a, rfl, ha⟩ := h r (by simp)
    obtain ⟨l, rfl, hl⟩ := ih fun r hr => h r (by simp [hr])
    exact ⟨a :: l, rfl, by simpa using ⟨ha, hl⟩⟩

section
variable {H : Type} {enc : TypeId × Value → H} {W : World} {sp : Nat → Bool} {held : Bool} {base : Nat}

theorem fate_in {n : Nat} {cs : List Value} {y : DataW H × List MemPlace} (hl : cs.length = 2) (h : DataW.trod enc Tryd.prog W base sp held n 96 cs = some y) : ∃ f : Int × Int, cs = fateV f ∧ True := by
  obtain ⟨m, hm⟩ := trod_fields (L := [3, 3]) (by kernel_rfl) (by simp) (by intro t ht; simp at ht; subst ht; kernel_rfl) h hl
  obtain ⟨v0, y0, h0, t0⟩ := hm 0 _ rfl
  obtain ⟨v1, y1, h1, t1⟩ := hm 1 _ rfl
  obtain ⟨n0, e0, _, w0⟩ := DataW.trod_int undInt t0
  obtain ⟨n1, e1, _, w1⟩ := DataW.trod_int undInt t1
  simp at e0 e1
  subst e0 e1
  refine ⟨(n0, n1), ?_, trivial⟩
  match cs, hl with
  | [a, b], _ =>
    simp at h0 h1
    subst h0 h1
    rfl

theorem turn_in {n : Nat} {cs : List Value} {y : DataW H × List MemPlace} (hl : cs.length = 4) (h : DataW.trod enc Tryd.prog W base sp held n 49 cs = some y) : ∃ t : Trn, cs = trnV t ∧ t.Ok W.heap := by
  obtain ⟨m, hm⟩ := trod_fields (L := [3, 3, 47, 22]) (by kernel_rfl) (by simp) (by intro t ht; simp at ht; rcases ht with rfl | rfl | rfl <;> kernel_rfl) h hl
  obtain ⟨v0, y0, h0, t0⟩ := hm 0 _ rfl
  obtain ⟨v1, y1, h1, t1⟩ := hm 1 _ rfl
  obtain ⟨v2, y2, h2, t2⟩ := hm 2 _ rfl
  obtain ⟨v3, y3, h3, t3⟩ := hm 3 _ rfl
  obtain ⟨n0, e0, _, w0⟩ := DataW.trod_int undInt t0
  obtain ⟨n1, e1, _, w1⟩ := DataW.trod_int undInt t1
  obtain ⟨p, k, c, rows, e2, hs, _, hq, hlen⟩ := segS_in undFates cFate (by decide) t2 (Q := fun r => ∃ f : Int × Int, r = fateV f ∧ True) fun n cs y hl h => fate_in hl h
  obtain ⟨n3, e3, _, w3⟩ := DataW.trod_int undU64 t3
  obtain ⟨fs, rfl, _⟩ := rows_of hq
  simp at e0 e1 e2 e3
  subst e0 e1 e2 e3
  have w3 := u64_wf w3
  obtain ⟨k3, rfl⟩ := Int.eq_ofNat_of_zero_le w3.1
  refine ⟨⟨n0, n1, p, k, c, k3, fs⟩, ?_, ⟨(i64_wf w0).1, (i64_wf w0).2, (i64_wf w1).1, (i64_wf w1).2, by show k3 < _; omega, hs⟩⟩
  match cs, hl with
  | [a, b, c, d], _ =>
    simp at h0 h1 h2 h3
    subst h0 h1 h2 h3
    rfl

theorem turns_arg {v : Value} {d : DataW H} {ps : List MemPlace} {r : Reach} {b0 : Nat} (hval : Value.okWide Tryd.prog W r b0 41 v) (hd : DataW.Trod enc Tryd.prog W 0 sp true 41 v d ps) :
    ∃ (p : Option Addr) (n c : Nat) (l : List Trn), v = .slice p n c ∧ SegS W.heap p n 4 (l.map trnV) ∧ ∀ x ∈ l, x.Ok W.heap := by
  obtain ⟨p, n, c, rows, rfl, hs, _, hq, hl⟩ := segS_arg undTurns cTurn (by decide) hval hd (Q := fun r => ∃ t : Trn, r = trnV t ∧ t.Ok W.heap) fun n cs y hl h => turn_in hl h
  obtain ⟨l, rfl, hok⟩ := rows_of hq
  exact ⟨p, n, c, l, rfl, hs, hok⟩

end

end Go.Vc
