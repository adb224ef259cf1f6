/- Steps that come in. -/
import Derived.Test.YthkbecpgbjejkaaDoorS9WWlT
import Derived.Test.YthkbecpgbjejkaaDoorS9WWlU
set_option maxRecDepth 10000
namespace Go.Vc
open Go Go.Proofs Go.ChangeShapes Go.WideShapes Go.ChangeAt Go.RowKit

theorem undSteps : Tryd.prog.underlying 39 = some (.slice 54) := by kernel_rfl
theorem cStep : Tryd.prog.cellsOf 54 = 2 := by kernel_rfl
theorem c1StepsH : Tryd.prog.cellsOf 39 = 1 := by kernel_rfl

def StpOk (s : Int × Bool) : Prop := -9223372036854775808 ≤ s.1 ∧ s.1 ≤ 9223372036854775807

section
variable {H : Type} {enc : TypeId × Value → H} {W : World} {sp : Nat → Bool} {held : Bool} {base : Nat}

theorem step_in {n : Nat} {cs : List Value} {y : DataW H × List MemPlace} (hl : cs.length = 2) (h : DataW.trod enc Tryd.prog W base sp held n 54 cs = some y) : ∃ s : Int × Bool, cs = stpV s ∧ StpOk s := by
  obtain ⟨m, hm⟩ := trod_fields (L := [3, 4]) (by kernel_rfl) (by simp) (by intro t ht; simp at ht; rcases ht with rfl | rfl <;> kernel_rfl) h hl
  obtain ⟨v0, y0, h0, t0⟩ := hm 0 _ rfl
  obtain ⟨v1, y1, h1, t1⟩ := hm 1 _ rfl
  obtain ⟨n0, e0, _, w0⟩ := DataW.trod_int undInt t0
  obtain ⟨b1, e1, _⟩ := DataW.trod_bool undBool t1
  simp at e0 e1
  subst e0 e1
  refine ⟨(n0, b1), ?_, i64_wf w0⟩
  match cs, hl with
  | [a, b], _ =>
    simp at h0 h1
    subst h0 h1
    rfl

theorem steps_arg {v : Value} {d : DataW H} {ps : List MemPlace} {r : Reach} {b0 : Nat} (hval : Value.okWide Tryd.prog W r b0 39 v) (hd : DataW.Trod enc Tryd.prog W 0 sp true 39 v d ps) :
    ∃ (p : Option Addr) (n c : Nat) (l : List (Int × Bool)), v = .slice p n c ∧ SegS W.heap p n 2 (l.map stpV) ∧ n ≤ c ∧ ∀ x ∈ l, StpOk x := by
  obtain ⟨a, len, cap, rfl⟩ := okWide_slice undSteps hval
  obtain ⟨fuel, hf⟩ := hd
  obtain ⟨p, n, c, rows, hcs, hs, hnc, hl⟩ := segS_in2 undSteps cStep (by decide) hf (Q := fun r y => ∃ s : Int × Bool, r = stpV s ∧ StpOk s) fun n cs y hl h => step_in hl h
  simp [Value.cells] at hcs
  obtain ⟨rfl, rfl, rfl⟩ := hcs
  rcases hl with h0 | ⟨elems, rest, hx, hel, hr⟩
  · have hn : rows = [] := List.eq_nil_of_length_eq_zero (by rw [hs.1]; exact h0)
    subst hn
    exact ⟨_, _, _, [], rfl, hs, hnc, by simp⟩
  · obtain ⟨l, rfl, hok⟩ := rows_of (f := stpV) (Q := StpOk) fun r hr' => by
      obtain ⟨y, hy, o, ho, hk⟩ := hr r hr'
      exact ⟨o, ho, hk⟩
    exact ⟨_, _, _, l, rfl, hs, hnc, hok⟩

end
end Go.Vc
