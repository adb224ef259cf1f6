/- Where the packer's writer lies. -/
import Derived.Test.YtloieaoglpjffaaS3PkT
import Derived.Test.YtloieaoglpjffaaPkM
set_option maxRecDepth 10000
namespace Go.Vc
open Go Go.Proofs

theorem uPW : Try.prog.underlying 25 = some (.pointer 71) := by kernel_rfl
theorem uPR : Try.prog.underlying 39 = some (.pointer 73) := by kernel_rfl
theorem zeroU8 : (Try.prog.info? 5).bind (·.zero) = some (.int .u8 0) := by kernel_rfl

/-- A row that became another one. -/
structure RowTo (h h' : Hp) (v v' : Value) : Prop where
  g : Grown h h' v.ownBlock
  n : v'.ownBlock = v.ownBlock ∨ ∃ b, v'.ownBlock = some b ∧ h.size ≤ b

theorem RowTo.refl (h : Hp) (v : Value) : RowTo h h v v := ⟨⟨Nat.le_refl _, fun _ _ _ => rfl⟩, .inl rfl⟩
theorem RowTo.trans {a b c : Hp} {u v w : Value} (x : RowTo a b u v) (y : RowTo b c v w) : RowTo a c u w := by
  refine ⟨⟨Nat.le_trans x.g.size y.g.size, fun k hk hne => ?_⟩, ?_⟩
  · refine (y.g.block k (Nat.lt_of_lt_of_le hk x.g.size) ?_).trans (x.g.block k hk hne)
    rcases x.n with e | ⟨b', e, hb⟩
    · rw [e]; exact hne
    · rw [e]; intro hh; injection hh with hh; omega
  · rcases y.n with e | ⟨b', e, hb⟩
    · rw [e]; exact x.n
    · exact .inr ⟨b', e, Nat.le_trans x.g.size hb⟩

structure WrIs (h : Hp) (B : Nat → Prop) (p : Nat) (w : Wr) (q : Option Addr) (c : Nat) : Prop where
  cell : h[p]? = some (.cells #[.slice q w.b.length c, vZ w.e] 71)
  row : Own h 0 5 1 (.slice q w.b.length c) w.b.length (byteVs w.b)
  bp : B p
  bq : ∀ b, (Value.slice q w.b.length c).ownBlock = some b → B b ∧ b ≠ p
  lt : ∀ b, B b → b < h.size

/-- At 'p' lies a writer; all that it needs lies in these blocks. -/
def WrAt (h : Hp) (B : Nat → Prop) (p : Nat) (w : Wr) : Prop := ∃ q c, WrIs h B p w q c

section
variable {h h' : Hp} {B C : Nat → Prop} {p : Nat} {w : Wr} {q : Option Addr} {c : Nat}

theorem WrIs.keep (W : WrIs h B p w q c) (hs : h.size ≤ h'.size) (k : ∀ b, B b → h'[b]? = h[b]?) : WrIs h' B p w q c :=
  ⟨(k p W.bp).trans W.cell, W.row.keep fun b hb => k b (W.bq b hb).1, W.bp, W.bq, fun b hb => Nat.lt_of_lt_of_le (W.lt b hb) hs⟩
theorem WrIs.more (W : WrIs h B p w q c) (hC : ∀ b, B b → C b) (hl : ∀ b, C b → b < h.size) : WrIs h C p w q c :=
  { W with bp := hC _ W.bp, bq := fun b hb => ⟨hC _ (W.bq b hb).1, (W.bq b hb).2⟩, lt := hl }
theorem WrAt.ext (W : WrAt h B p w) (x : Ext h h') : WrAt h' B p w := let ⟨q, c, W⟩ := W; ⟨q, c, W.keep x.size fun b hb => x.old b (W.lt b hb)⟩
theorem WrAt.other (W : WrAt h B p w) (x : Same C h h') (hC : ∀ b, B b → ¬ C b) : WrAt h' B p w := let ⟨q, c, W⟩ := W; ⟨q, c, W.keep x.size fun b hb => x.old b (W.lt b hb) (hC b hb)⟩
theorem WrAt.more (W : WrAt h B p w) (hC : ∀ b, B b → C b) (hl : ∀ b, C b → b < h.size) : WrAt h C p w := let ⟨q, c, W⟩ := W; ⟨q, c, W.more hC hl⟩
theorem WrAt.lt (W : WrAt h B p w) : ∀ b, B b → b < h.size := let ⟨_, _, W⟩ := W; W.lt
theorem WrAt.grow (W : WrAt h B p w) : WrAt h (GrowB B h h) p w := W.more (fun _ hb => .inl hb) (GrowB.lt W.lt (Nat.le_refl _))

/-- The writer's row became another one, and is put there. -/
theorem WrIs.put (W : WrIs h B p w q c) {h1 : Hp} {q' : Option Addr} {c' : Nat} {L' : List UInt8} (o : Own h1 0 5 1 (.slice q' L'.length c') L'.length (byteVs L')) (r : RowTo h h1 (.slice q w.b.length c) (.slice q' L'.length c')) :
    h1[p]? = some (.cells #[.slice q w.b.length c, vZ w.e] 71) ∧ wrAt h1 p (0 + 0) 1 ∧ ∀ h2, h2 = setsH h1 p (0 + 0) [.slice q' L'.length c'] → Same B h h2 ∧ WrAt h2 (GrowB B h h2) p ⟨L', w.e⟩ := by
  have lp : p < h.size := W.lt p W.bp
  have c1 : h1[p]? = some (.cells #[.slice q w.b.length c, vZ w.e] 71) := (r.g.block p lp fun e => (W.bq p e.symm).2 rfl).trans W.cell
  refine ⟨c1, wrAt_of c1 (by show 0 + 0 + 1 ≤ 2; decide) (.inl (Nat.zero_le _)), ?_⟩
  rintro h2 rfl
  have y : Same B h (setsH h1 p (0 + 0) [.slice q' L'.length c']) := (r.g.same B fun b hb => (W.bq b hb).1).trans (setsH_same (B := B) W.bp) fun _ h _ => h
  have hne : ∀ b, (Value.slice q' L'.length c').ownBlock = some b → b ≠ p := by
    intro b hb e
    rcases r.n with e1 | ⟨b', e1, hb'⟩
    · rw [e1] at hb; exact (W.bq b hb).2 e
    · rw [e1] at hb; injection hb with hb; omega
  refine ⟨y, q', c', ⟨?_, ?_, .inl W.bp, ?_, GrowB.lt W.lt y.size⟩⟩
  · rw [setsH_at c1]; rfl
  · exact o.keep fun b hb => setsH_ne (hne b hb)
  · intro b hb
    refine ⟨?_, hne b hb⟩
    have hl : b < h1.size := (o.lt hb).2
    rcases r.n with e1 | ⟨b', e1, hb'⟩
    · rw [e1] at hb; exact .inl (W.bq b hb).1
    · rw [e1] at hb; injection hb with hb
      exact .inr ⟨by omega, by rw [setsH_size]; omega⟩

/-- The writer's error is set. -/
theorem WrIs.err (W : WrIs h B p w q c) (e : Int) : wrAt h p (0 + 1) 1 ∧ ∀ h1, h1 = setsH h p (0 + 1) [vZ e] → Same B h h1 ∧ WrAt h1 B p ⟨w.b, e⟩ := by
  refine ⟨wrAt_of W.cell (by show 0 + 1 + 1 ≤ 2; decide) (.inl (Nat.zero_le _)), ?_⟩
  rintro h1 rfl
  refine ⟨setsH_same W.bp, q, c, ⟨?_, W.row.keep fun b hb => setsH_ne (W.bq b hb).2, W.bp, W.bq, fun b hb => by rw [setsH_size]; exact W.lt b hb⟩⟩
  rw [setsH_at W.cell]; rfl

end

end Go.Vc
