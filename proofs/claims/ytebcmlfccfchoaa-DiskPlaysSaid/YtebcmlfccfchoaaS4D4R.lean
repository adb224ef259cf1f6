/- Writes and fates that come in. -/
import Derived.Test.YtebcmlfccfchoaaS4DR
import Derived.Test.YtebcmlfccfchoaaS4D4A
set_option maxRecDepth 10000
namespace Go.Vc
open Go Go.Proofs Go.ChangeShapes Go.WideShapes Go.ChangeAt Go.RowKit

theorem undPuts : Try.prog.underlying 22 = some (.slice 38) := by kernel_rfl
theorem undFates : Try.prog.underlying 28 = some (.slice 30) := by kernel_rfl
theorem cPut : Try.prog.cellsOf 38 = 3 := by kernel_rfl
theorem cFate : Try.prog.cellsOf 30 = 2 := by kernel_rfl
theorem bPut : Try.prog.bytesOf 38 = 16 := by kernel_rfl
theorem bFate : Try.prog.bytesOf 30 = 16 := by kernel_rfl

section
variable {H : Type} {enc : TypeId × Value → H} {W : World} {sp : Nat → Bool} {held : Bool} {base : Nat}

theorem put_in {n : Nat} {cs : List Value} {y : DataW H × List MemPlace} (hl : cs.length = 3) (h : DataW.trod enc Try.prog W base sp held n 38 cs = some y) : ∃ p : Put, cs = putV p ∧ PutOk p := by
  obtain ⟨m, hm⟩ := trod_fields (L := [3, 5, 5]) (by kernel_rfl) (by simp) (by intro t ht; simp at ht; rcases ht with rfl | rfl <;> kernel_rfl) h hl
  obtain ⟨v0, y0, h0, t0⟩ := hm 0 _ rfl
  obtain ⟨v1, y1, h1, t1⟩ := hm 1 _ rfl
  obtain ⟨v2, y2, h2, t2⟩ := hm 2 _ rfl
  obtain ⟨n0, e0, _, w0⟩ := DataW.trod_int undInt t0
  obtain ⟨n1, e1, _, w1⟩ := DataW.trod_int undU8 t1
  obtain ⟨n2, e2, _, w2⟩ := DataW.trod_int undU8 t2
  simp at e0 e1 e2
  subst e0 e1 e2
  obtain ⟨b1, rfl⟩ := u8_wf w1
  obtain ⟨b2, rfl⟩ := u8_wf w2
  refine ⟨⟨n0, b1, b2⟩, ?_, i64_wf w0⟩
  match cs, hl with
  | [a, b, c], _ =>
    simp at h0 h1 h2
    subst h0 h1 h2
    rfl

theorem fate_in {n : Nat} {cs : List Value} {y : DataW H × List MemPlace} (hl : cs.length = 2) (h : DataW.trod enc Try.prog W base sp held n 30 cs = some y) : ∃ f : Int × Int, cs = fateV f ∧ (-9223372036854775808 ≤ f.1 ∧ f.1 ≤ 9223372036854775807) ∧ -9223372036854775808 ≤ f.2 ∧ f.2 ≤ 9223372036854775807 := by
  obtain ⟨m, hm⟩ := trod_fields (L := [3, 3]) (by kernel_rfl) (by simp) (by intro t ht; simp at ht; subst ht; kernel_rfl) h hl
  obtain ⟨v0, y0, h0, t0⟩ := hm 0 _ rfl
  obtain ⟨v1, y1, h1, t1⟩ := hm 1 _ rfl
  obtain ⟨n0, e0, _, w0⟩ := DataW.trod_int undInt t0
  obtain ⟨n1, e1, _, w1⟩ := DataW.trod_int undInt t1
  simp at e0 e1
  subst e0 e1
  refine ⟨(n0, n1), ?_, i64_wf w0, i64_wf w1⟩
  match cs, hl with
  | [a, b], _ =>
    simp at h0 h1
    subst h0 h1
    rfl

/-- Rows that are all of a kind. -/
theorem rows_of {α : Type} {f : α → List Value} {Q : α → Prop} : ∀ {rows : List (List Value)}, (∀ r ∈ rows, ∃ a, r = f a ∧ Q a) → ∃ l : List α, rows = l.map f ∧ ∀ a ∈ l, Q a := by
  intro rows
  induction rows with
  | nil => exact fun _ => ⟨[], rfl, by simp⟩
  | cons r rs ih =>
    intro h
    obtain ⟨a, rfl, ha⟩ := h r (by simp)
    obtain ⟨l, rfl, hl⟩ := ih fun r hr => h r (by simp [hr])
    exact ⟨a :: l, rfl, by simpa using ⟨ha, hl⟩⟩

theorem puts_arg {v : Value} {d : DataW H} {ps : List MemPlace} {r : Reach} {b0 : Nat} (hval : Value.okWide Try.prog W r b0 22 v) (hd : DataW.Trod enc Try.prog W 0 sp true 22 v d ps) :
    ∃ (p : Option Addr) (n c : Nat) (l : List Put), v = .slice p n c ∧ SegS W.heap p n 3 (l.map putV) ∧ (∀ x ∈ l, PutOk x) ∧ (n = 0 ∨ ∃ elems rest, d = .slice elems rest ∧ elems.length = n) := by
  obtain ⟨p, n, c, rows, rfl, hs, _, hq, hl⟩ := segS_arg undPuts cPut (by decide) hval hd (Q := fun r => ∃ p : Put, r = putV p ∧ PutOk p) fun n cs y hl h => put_in hl h
  obtain ⟨l, rfl, hok⟩ := rows_of hq
  exact ⟨p, n, c, l, rfl, hs, hok, hl⟩

theorem fates_arg {v : Value} {d : DataW H} {ps : List MemPlace} {r : Reach} {b0 : Nat} (hval : Value.okWide Try.prog W r b0 28 v) (hd : DataW.Trod enc Try.prog W 0 sp true 28 v d ps) :
    ∃ (p : Option Addr) (n c : Nat) (l : List (Int × Int)), v = .slice p n c ∧ SegS W.heap p n 2 (l.map fateV) ∧ (∀ f ∈ l, (-9223372036854775808 ≤ f.1 ∧ f.1 ≤ 9223372036854775807) ∧ -9223372036854775808 ≤ f.2 ∧ f.2 ≤ 9223372036854775807) ∧ (n = 0 ∨ ∃ elems rest, d = .slice elems rest ∧ elems.length = n) := by
  obtain ⟨p, n, c, rows, rfl, hs, _, hq, hl⟩ := segS_arg undFates cFate (by decide) hval hd (Q := fun r => ∃ f : Int × Int, r = fateV f ∧ _) fun n cs y hl h => fate_in hl h
  obtain ⟨l, rfl, hok⟩ := rows_of hq
  exact ⟨p, n, c, l, rfl, hs, hok, hl⟩

end

theorem undBools : Try.prog.underlying 41 = some (.slice 4) := by kernel_rfl

theorem seg_of_segS {α : Type} {h : Hp} {p : Option Addr} {n : Nat} {l : List α} {f : α → Value} (s : SegS h p n 1 (l.map fun a => [f a])) : Seg h p n (l.map f) := by
  have e : (l.map fun a => [f a]).flatten = l.map f := by
    induction l with
    | nil => rfl
    | cons a r ih => 
      have hl : SegS h none r.length 1 (r.map fun a => [f a]) ∨ True := .inr trivial
      clear hl ih
      simp only [List.map_cons, List.flatten_cons, List.singleton_append]
      congr 1
      clear s
      induction r with
      | nil => rfl
      | cons b r ih => simp only [List.map_cons, List.flatten_cons, List.singleton_append, ih]
  refine ⟨by have := s.1; simpa using this, ?_⟩
  rcases s.2.2 with h0 | ⟨b, o, hp, hc⟩
  · left; have : l = [] := by simpa using h0
    subst this; rfl
  · right; exact ⟨b, o, hp, by rw [← e]; exact hc⟩

theorem bools_arg {H : Type} {enc : TypeId × Value → H} {W : World} {sp : Nat → Bool} {v : Value} {d : DataW H} {ps : List MemPlace} {r : Reach} {b0 : Nat} (hval : Value.okWide Try.prog W r b0 41 v) (hd : DataW.Trod enc Try.prog W 0 sp true 41 v d ps) :
    ∃ (p : Option Addr) (n c : Nat) (l : List Bool), v = .slice p n c ∧ Seg W.heap p n (l.map Value.bool) := by
  obtain ⟨p, n, c, rows, rfl, hs, _, hq, hl⟩ := segS_arg undBools cBool (by decide) hval hd (Q := fun r => ∃ b : Bool, r = [Value.bool b] ∧ True) fun n cs y hl h => by
    obtain ⟨b, hb, _⟩ := DataW.trod_bool undBool h
    exact ⟨b, hb, trivial⟩
  obtain ⟨l, rfl, _⟩ := rows_of hq
  exact ⟨p, n, c, l, rfl, seg_of_segS hs⟩

/-- How many there are. -/
theorem many_le {H : Type} {ts : List TypeId} {ds : List (DataW H)} (hsz : (DataW.weightsEach Try.prog ts ds).all (· ≤ reachBytes) = true) {j : Nat} {t e : TypeId} {d : DataW H} (ht : ts[j]? = some t) (hd : ds[j]? = some d) (hu : Try.prog.underlying t = some (.slice e)) (hb : Try.prog.bytesOf e = 16)
    {n : Nat} (h : n = 0 ∨ ∃ elems rest, d = .slice elems rest ∧ elems.length = n) : n ≤ 8796093022207 := by
  rcases h with rfl | ⟨elems, rest, rfl, rfl⟩
  · omega
  · have := sized_slice hsz ht hd hu
    rw [hb] at this
    have h2 : reachBytes = 140737488351232 := rfl
    omega

end Go.Vc
