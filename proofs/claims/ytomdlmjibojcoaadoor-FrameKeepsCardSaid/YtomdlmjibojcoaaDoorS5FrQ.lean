/- Lists of frames and of fates that come in. -/
import Derived.Test.YtomdlmjibojcoaaDoorS5FrR
set_option maxRecDepth 10000
namespace Go.Vc
open Go Go.Proofs Go.ChangeShapes Go.WideShapes Go.ChangeAt Go.RowKit

theorem undFrames : Tryd.prog.underlying 43 = some (.slice 24) := by kernel_rfl
theorem bFrame : Tryd.prog.bytesOf 24 = 40 := by kernel_rfl
theorem undFates : Tryd.prog.underlying 44 = some (.slice 55) := by kernel_rfl
theorem cFate : Tryd.prog.cellsOf 55 = 2 := by kernel_rfl

theorem rows_of {α : Type} {f : α → List Value} {Q : α → Prop} : ∀ {rows : List (List Value)}, (∀ r ∈ rows, ∃ a, r = f a ∧ Q a) → ∃ l : List α, rows = l.map f ∧ ∀ a ∈ l, Q a := by
  intro rows
  induction rows with
  | nil => exact fun _ => ⟨[], rfl, by simp⟩
  | cons r rs ih =>
    intro h
    obtain ⟨a, rfl, ha⟩ := h r (by simp)
    obtain ⟨l, rfl, hl⟩ := ih fun r hr => h r (by simp [hr])
    exact ⟨a :: l, rfl, by simpa using ⟨ha, hl⟩⟩

section
variable {H : Type} {enc : TypeId × Value → H} {W : World} {sp : Nat → Bool} {held : Bool} {base : Nat}

theorem frms_arg {v : Value} {d : DataW H} {ps : List MemPlace} {r : Reach} {b0 : Nat} (hval : Value.okWide Tryd.prog W r b0 43 v) (hd : DataW.Trod enc Tryd.prog W 0 sp true 43 v d ps) (hw : WOk Tryd.prog 43 d) :
    ∃ (p : Option Addr) (n c : Nat) (l : List Frm), v = .slice p n c ∧ SegS W.heap p n 4 (l.map frmV) ∧ (∀ x ∈ l, x.Ok) ∧ l.length ≤ 8796093022207 := by
  obtain ⟨p, n, c, rows, rfl, hs, _, hq, hl⟩ := segS_arg undFrames cFrame (by decide) hval hd (Q := fun r => ∃ f : Frm, r = frmV f ∧ f.Ok) fun n cs y hl h => frm_in hl h
  obtain ⟨l, rfl, hok⟩ := rows_of hq
  refine ⟨p, n, c, l, rfl, hs, hok, ?_⟩
  have hk : l.length = n := by have := hs.1; simpa using this
  rcases hl with h0 | ⟨elems, rest, rfl, hel⟩
  · omega
  · have := hw.len undFrames
    rw [bFrame] at this
    have h2 : reachBytes = 140737488351232 := rfl
    omega

theorem fate_in {n : Nat} {cs : List Value} {y : DataW H × List MemPlace} (hl : cs.length = 2) (h : DataW.trod enc Tryd.prog W base sp held n 55 cs = some y) : ∃ f : Int × Int, cs = fateV f ∧ True := by
  obtain ⟨m, hm⟩ := trod_fields (L := [3, 3]) (by kernel_rfl) (by simp) (by intro t ht; simp at ht; subst ht; kernel_rfl) h hl
  obtain ⟨v0, y0, h0, t0⟩ := hm 0 _ rfl
  obtain ⟨v1, y1, h1, t1⟩ := hm 1 _ rfl
  obtain ⟨n0, e0, _, w0⟩ := DataW.trod_int undInt t0
  obtain ⟨n1, e1, _, w1⟩ := DataW.trod_int undInt t1
  simp at e0 e1
  subst e0 e1
  refine ⟨(n0, n1), ?_, trivial⟩
  match cs, hl with
  | [a, b], _ =>
    simp at h0 h1
    subst h0 h1
    rfl

theorem fates_arg {v : Value} {d : DataW H} {ps : List MemPlace} {r : Reach} {b0 : Nat} (hval : Value.okWide Tryd.prog W r b0 44 v) (hd : DataW.Trod enc Tryd.prog W 0 sp true 44 v d ps) :
    ∃ (p : Option Addr) (n c : Nat) (l : List (Int × Int)), v = .slice p n c ∧ SegS W.heap p n 2 (l.map fateV) := by
  obtain ⟨p, n, c, rows, rfl, hs, _, hq, hl⟩ := segS_arg undFates cFate (by decide) hval hd (Q := fun r => ∃ f : Int × Int, r = fateV f ∧ True) fun n cs y hl h => fate_in hl h
  obtain ⟨l, rfl, _⟩ := rows_of hq
  exact ⟨p, n, c, l, rfl, hs⟩

end
theorem trodAll_five {H : Type} {enc : TypeId × Value → H} {P : Program} {w : World} {base : Nat} {spare : Nat → Bool} {held : Bool} {t t1 t2 t3 t4 : TypeId} {args : Array Value} {ds : List (DataW H)} {ps : List MemPlace}
    (h : DataW.TrodAll enc P w base spare held [t, t1, t2, t3, t4] args.toList ds ps) :
    ∃ v v1 v2 v3 v4 d d1 d2 d3 d4 p p1 p2 p3 p4, args = #[v, v1, v2, v3, v4] ∧ ds = [d, d1, d2, d3, d4] ∧ ps = p ++ p1 ++ p2 ++ p3 ++ p4 ∧ DataW.Trod enc P w base spare held t v d p ∧ DataW.Trod enc P w base spare held t1 v1 d1 p1 ∧
      DataW.Trod enc P w base spare held t2 v2 d2 p2 ∧ DataW.Trod enc P w base spare held t3 v3 d3 p3 ∧ DataW.Trod enc P w base spare held t4 v4 d4 p4 := by
  obtain ⟨v, vs, d, ds', p, q, hargs, rfl, rfl, hd, hrest⟩ := trodAll_cons h
  obtain ⟨v1, v2, v3, v4, d1, d2, d3, d4, p1, p2, p3, p4, e1, rfl, rfl, h1, h2, h3, h4⟩ := trodAll_four (args := vs.toArray) (by simpa using hrest)
  have e2 : vs = [v1, v2, v3, v4] := by have := congrArg Array.toList e1; simpa using this
  subst e2
  exact ⟨v, v1, v2, v3, v4, d, d1, d2, d3, d4, p, p1, p2, p3, p4, by cases args; simp_all, rfl, by simp, hd, h1, h2, h3, h4⟩

end Go.Vc
