/- Scripts that come in. -/
import Derived.Test.YtebcmlfccfchoaaS4D4R
import Derived.Test.YtebcmlfccfchoaaS4D4V
set_option maxRecDepth 10000
namespace Go.Vc
open Go Go.Proofs Go.ChangeShapes Go.WideShapes Go.ChangeAt Go.RowKit

theorem undOps : Try.prog.underlying 66 = some (.slice 69) := by kernel_rfl
theorem cOp : Try.prog.cellsOf 69 = 6 := by kernel_rfl
theorem bOp : Try.prog.bytesOf 69 = 72 := by kernel_rfl
theorem fieldsOp : fieldsOf Try.prog 69 = [3, 3, 3, 9, 5, 28].zip (List.range [3, 3, 3, 9, 5, 28].length) := by kernel_rfl

section
variable {H : Type} {enc : TypeId × Value → H} {W : World} {sp : Nat → Bool} {held : Bool} {base : Nat}

theorem op_in {n : Nat} {cs : List Value} {y : DataW H × List MemPlace} (hl : cs.length = 6) (h : DataW.trod enc Try.prog W base sp held n 69 cs = some y) :
    ∃ o : OpR, cs = opV o ∧ (WOk Try.prog 69 y.1 → OpOk W.heap o) := by
  obtain ⟨m, parts, hy, hm⟩ := trod_parts (L := [3, 3, 3, 9, 5, 28]) fieldsOp (by simp) (by intro t ht; simp at ht; rcases ht with rfl | rfl | rfl | rfl <;> kernel_rfl) h hl
  obtain ⟨v0, y0, h0, t0, _⟩ := hm 0 _ rfl
  obtain ⟨v1, y1, h1, t1, _⟩ := hm 1 _ rfl
  obtain ⟨v2, y2, h2, t2, _⟩ := hm 2 _ rfl
  obtain ⟨v3, y3, h3, t3, _⟩ := hm 3 _ rfl
  obtain ⟨v4, y4, h4, t4, _⟩ := hm 4 _ rfl
  obtain ⟨v5, y5, h5, t5, d5⟩ := hm 5 _ rfl
  obtain ⟨n0, e0, _, w0⟩ := DataW.trod_int undInt t0
  obtain ⟨n1, e1, _, w1⟩ := DataW.trod_int undInt t1
  obtain ⟨n2, e2, _, w2⟩ := DataW.trod_int undInt t2
  obtain ⟨s3, e3, _, _⟩ := DataW.trod_string undStr t3
  obtain ⟨n4, e4, _, w4⟩ := DataW.trod_int undU8 t4
  obtain ⟨p, k, c, rows, e5, hs, _, hq, hlen⟩ := segS_in undFates cFate (by decide) t5 (Q := fun r => ∃ f : Int × Int, r = fateV f ∧ True) fun n cs y hl h => by
    obtain ⟨f, hf, _⟩ := fate_in hl h
    exact ⟨f, hf, trivial⟩
  obtain ⟨fs, rfl, _⟩ := rows_of hq
  simp at e0 e1 e2 e3 e4 e5
  subst e0 e1 e2 e3 e4 e5
  obtain ⟨b4, rfl⟩ := u8_wf w4
  refine ⟨⟨n0, n1, n2, s3, b4, p, k, c, fs⟩, ?_, fun hw => ⟨(i64_wf w2).1, (i64_wf w2).2, (i64_wf w1).1, (i64_wf w1).2, ?_, hs⟩⟩
  · match cs, hl with
    | [a, b, c, d, e, f], _ =>
      simp at h0 h1 h2 h3 h4 h5
      subst h0 h1 h2 h3 h4 h5
      rfl
  · have hk : fs.length = k := by have := hs.1; simpa using this
    show fs.length ≤ _
    rcases hlen with h0 | ⟨elems, rest, hx, hel⟩
    · omega
    · rw [hy] at hw
      have hwp := hw.part (L := [3, 3, 3, 9, 5, 28]) fieldsOp (i := 5) (t := 28) rfl d5
      rw [hx] at hwp
      have := hwp.len undFates
      rw [bFate] at this
      have h2 : reachBytes = 140737488351232 := rfl
      omega

theorem ops_arg {v : Value} {d : DataW H} {ps : List MemPlace} {r : Reach} {b0 : Nat} (hval : Value.okWide Try.prog W r b0 66 v) (hd : DataW.Trod enc Try.prog W 0 sp true 66 v d ps) (hw : WOk Try.prog 66 d) :
    ∃ (p : Option Addr) (n c : Nat) (l : List OpR), v = .slice p n c ∧ SegS W.heap p n 6 (l.map opV) ∧ (∀ x ∈ l, OpOk W.heap x) ∧ l.length ≤ 2199023255551 := by
  obtain ⟨a, len, cap, rfl⟩ := okWide_slice undOps hval
  obtain ⟨fuel, hf⟩ := hd
  obtain ⟨p, n, c, rows, hcs, hs, hnc, hl⟩ := segS_in2 undOps cOp (by decide) hf (Q := fun r y => ∃ o : OpR, r = opV o ∧ (WOk Try.prog 69 y → OpOk W.heap o)) fun n cs y hl h => op_in hl h
  simp [Value.cells] at hcs
  obtain ⟨rfl, rfl, rfl⟩ := hcs
  rcases hl with h0 | ⟨elems, rest, hx, hel, hr⟩
  · have hn : rows = [] := List.eq_nil_of_length_eq_zero (by rw [hs.1]; exact h0)
    subst hn
    exact ⟨_, _, _, [], rfl, hs, by simp, by simp⟩
  · simp only at hx
    subst hx
    obtain ⟨l, rfl, hok⟩ := rows_of (f := opV) (Q := fun o => OpOk W.heap o) fun r hr' => by
      obtain ⟨y, hy, o, ho, hk⟩ := hr r hr'
      exact ⟨o, ho, hk (hw.elem undOps y hy)⟩
    refine ⟨_, _, _, l, rfl, hs, hok, ?_⟩
    have hk : l.length = len := by have := hs.1; simpa using this
    have := hw.len undOps
    rw [bOp] at this
    have h2 : reachBytes = 140737488351232 := rfl
    omega

end
end Go.Vc
