/- Lives that come in. -/
import Derived.Test.YthkbecpgbjejkaaDoorS9WWlW
import Derived.Test.YthkbecpgbjejkaaDoorS9WWlZ
set_option maxRecDepth 10000
namespace Go.Vc
open Go Go.Proofs Go.ChangeShapes Go.WideShapes Go.ChangeAt Go.RowKit

theorem undLives : Tryd.prog.underlying 70 = some (.slice 75) := by kernel_rfl
theorem cLife : Tryd.prog.cellsOf 75 = 3 := by kernel_rfl

section
variable {H : Type} {enc : TypeId × Value → H} {W : World} {sp : Nat → Bool} {held : Bool} {base : Nat}

theorem life_in {n : Nat} {cs : List Value} {y : DataW H × List MemPlace} (hl : cs.length = 3) (h : DataW.trod enc Tryd.prog W base sp held n 75 cs = some y) : ∃ x : Lfe, cs = lfeV x ∧ x.Ok W.heap := by
  obtain ⟨m, hm⟩ := trod_fields (L := [39, 3, 73]) (by kernel_rfl) (by simp) (by intro t ht; simp at ht; rcases ht with rfl | rfl | rfl <;> kernel_rfl) h hl
  obtain ⟨v0, y0, h0, t0⟩ := hm 0 _ rfl
  obtain ⟨v1, y1, h1, t1⟩ := hm 1 _ rfl
  obtain ⟨v2, y2, h2, t2⟩ := hm 2 _ rfl
  obtain ⟨p0, k0, c0, rows0, e0, s0, n0, q0, _⟩ := segS_in undSteps cStep (by decide) t0 (Q := fun r => ∃ s : Int × Bool, r = stpV s ∧ StpOk s) fun n cs y hl h => step_in hl h
  obtain ⟨n1, e1, _, w1⟩ := DataW.trod_int undInt t1
  obtain ⟨p2, k2, c2, rows2, e2, s2, _, q2, _⟩ := segS_in undFates cFate (by decide) t2 (Q := fun r => ∃ f : Int × Int, r = fateV f ∧ True) fun n cs y hl h => fate_in hl h
  obtain ⟨steps, rfl, so⟩ := rows_of q0
  obtain ⟨fates, rfl, _⟩ := rows_of q2
  simp at e0 e1 e2
  subst e0 e1 e2
  refine ⟨⟨p0, k0, c0, steps, n1, p2, k2, c2, fates⟩, ?_, ⟨s0, n0, so, (i64_wf w1).1, (i64_wf w1).2, s2⟩⟩
  match cs, hl with
  | [a, b, c], _ =>
    simp at h0 h1 h2
    subst h0 h1 h2
    rfl

theorem lives_arg {v : Value} {d : DataW H} {ps : List MemPlace} {r : Reach} {b0 : Nat} (hval : Value.okWide Tryd.prog W r b0 70 v) (hd : DataW.Trod enc Tryd.prog W 0 sp true 70 v d ps) :
    ∃ (p : Option Addr) (n c : Nat) (l : List Lfe), v = .slice p n c ∧ SegS W.heap p n 3 (l.map lfeV) ∧ ∀ x ∈ l, x.Ok W.heap := by
  obtain ⟨a, len, cap, rfl⟩ := okWide_slice undLives hval
  obtain ⟨fuel, hf⟩ := hd
  obtain ⟨p, n, c, rows, hcs, hs, _, hq, _⟩ := segS_in undLives cLife (by decide) hf (Q := fun r => ∃ x : Lfe, r = lfeV x ∧ x.Ok W.heap) fun n cs y hl h => life_in hl h
  simp [Value.cells] at hcs
  obtain ⟨rfl, rfl, rfl⟩ := hcs
  obtain ⟨l, rfl, hok⟩ := rows_of hq
  exact ⟨_, _, _, l, rfl, hs, hok⟩

end
end Go.Vc
