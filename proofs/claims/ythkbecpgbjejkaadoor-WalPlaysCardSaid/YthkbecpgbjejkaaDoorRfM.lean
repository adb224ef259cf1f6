/- The document's disk in memory. -/
import Derived.Test.YthkbecpgbjejkaaDoorDkM
set_option maxRecDepth 10000
namespace Go.Vc
open Go Go.MapKept

/-- The numbers of the types. -/
structure RIds where
  tS : Nat
  tW : Nat
  tR : Nat

structure RIds.Good (I : RIds) : Prop where
  sr : I.tS ≠ I.tR
  wr : I.tW ≠ I.tR
  sw : I.tS ≠ I.tW

structure RW where
  ps : Option Addr
  cs : Nat
  pw : Option Addr
  cw : Nat

def waitV (x : Nat × ByteArray) : List Value := [vI x.1, .string x.2]

def DS.rcells (σ : DS) (w : RW) : List Value :=
  [.slice w.ps σ.safe.length w.cs, .slice w.pw σ.pend.length w.cw, .bool σ.gone, vI σ.plan, vZ σ.reads, vZ σ.writes, vZ σ.flushes]

structure RefIs (I : RIds) (h : Hp) (B : Nat → Prop) (d : Nat) (σ : DS) (w : RW) : Prop where
  cell : h[d]? = some (.cells (σ.rcells w).toArray I.tR)
  safe : Own h 0 I.tS 1 (.slice w.ps σ.safe.length w.cs) σ.safe.length (σ.safe.map Value.string)
  wait : Own h 0 I.tW 2 (.slice w.pw σ.pend.length w.cw) σ.pend.length (σ.pend.map waitV).flatten
  bd : B d
  bs : ∀ b, (Value.slice w.ps σ.safe.length w.cs).ownBlock = some b → B b
  bw : ∀ b, (Value.slice w.pw σ.pend.length w.cw).ownBlock = some b → B b
  lt : ∀ b, B b → b < h.size
  ok : σ.Ok
  off : σ.gone = true → σ.plan = 0

def RefAt (I : RIds) (h : Hp) (B : Nat → Prop) (d : Nat) (σ : DS) : Prop := ∃ w, RefIs I h B d σ w

section
variable {I : RIds} {h h' : Hp} {B C : Nat → Prop} {d : Nat} {σ : DS} {w : RW}

theorem RefIs.keep (D : RefIs I h B d σ w) (hs : h.size ≤ h'.size) (k : ∀ b, B b → h'[b]? = h[b]?) : RefIs I h' B d σ w where
  cell := (k d D.bd).trans D.cell
  safe := D.safe.keep fun b hb => k b (D.bs b hb)
  wait := D.wait.keep fun b hb => k b (D.bw b hb)
  bd := D.bd
  bs := D.bs
  bw := D.bw
  lt := fun b hb => Nat.lt_of_lt_of_le (D.lt b hb) hs
  ok := D.ok
  off := D.off

theorem RefIs.more (D : RefIs I h B d σ w) (hC : ∀ b, B b → C b) (hl : ∀ b, C b → b < h.size) : RefIs I h C d σ w :=
  { D with bd := hC _ D.bd, bs := fun b hb => hC _ (D.bs b hb), bw := fun b hb => hC _ (D.bw b hb), lt := hl }

theorem RefAt.keep (D : RefAt I h B d σ) (hs : h.size ≤ h'.size) (k : ∀ b, B b → h'[b]? = h[b]?) : RefAt I h' B d σ := let ⟨w, D⟩ := D; ⟨w, D.keep hs k⟩
theorem RefAt.ext (D : RefAt I h B d σ) (x : Ext h h') : RefAt I h' B d σ := let ⟨w, D⟩ := D; ⟨w, D.keep x.size fun b hb => x.old b (D.lt b hb)⟩
theorem RefAt.other (D : RefAt I h B d σ) (x : Same C h h') (hC : ∀ b, B b → ¬ C b) : RefAt I h' B d σ := let ⟨w, D⟩ := D; ⟨w, D.keep x.size fun b hb => x.old b (D.lt b hb) (hC b hb)⟩
theorem RefAt.more (D : RefAt I h B d σ) (hC : ∀ b, B b → C b) (hl : ∀ b, C b → b < h.size) : RefAt I h C d σ := let ⟨w, D⟩ := D; ⟨w, D.more hC hl⟩
theorem RefAt.lt (D : RefAt I h B d σ) : ∀ b, B b → b < h.size := let ⟨_, D⟩ := D; D.lt
theorem RefAt.ok (D : RefAt I h B d σ) : σ.Ok := let ⟨_, D⟩ := D; D.ok

theorem RefIs.wr (D : RefIs I h B d σ w) {k : Nat} (hk : k < 7) : wrAt h d k 1 := wrAt_of D.cell (show k + 1 ≤ 7 by omega) (.inl (Nat.zero_le _))

theorem RefIs.ne (D : RefIs I h B d σ w) (G : I.Good) : (∀ b, (Value.slice w.ps σ.safe.length w.cs).ownBlock = some b → b ≠ d) ∧ (∀ b, (Value.slice w.pw σ.pend.length w.cw).ownBlock = some b → b ≠ d) := by
  refine ⟨?_, ?_⟩
  · intro b hb e
    obtain ⟨cur, hc⟩ := D.safe.blk hb
    rw [e, D.cell] at hc; injection hc with hc; injection hc with _ hc; exact G.sr hc.symm
  · intro b hb e
    obtain ⟨cur, hc⟩ := D.wait.blk hb
    rw [e, D.cell] at hc; injection hc with hc; injection hc with _ hc; exact G.wr hc.symm

/-- The writes that wait, as a segment. -/
theorem RefIs.seg (D : RefIs I h B d σ w) : SegS h w.pw σ.pend.length 2 (σ.pend.map waitV) :=
  D.wait.segS (fun r hr => by obtain ⟨x, _, rfl⟩ := List.mem_map.1 hr; rfl) (by simp)

/-- A field of its own is set. -/
theorem RefIs.set (D : RefIs I h B d σ w) (G : I.Good) {σ' : DS} {k : Nat} {v : Value} (hc : (σ.rcells w).set k v = σ'.rcells w) (hs : σ'.safe = σ.safe) (hp : σ'.pend = σ.pend) (ok : σ'.Ok) (off : σ'.gone = true → σ'.plan = 0) : RefIs I (setsH h d k [v]) B d σ' w := by
  have N := D.ne G
  have k' : ∀ b, b ≠ d → (setsH h d k [v])[b]? = h[b]? := fun b hb => setsH_ne hb
  refine ⟨?_, ?_, ?_, D.bd, ?_, ?_, ?_, ok, off⟩
  · rw [setsH_at D.cell]
    simp only [layC, List.setIfInBounds_toArray, hc]
  · rw [hs]; exact D.safe.keep fun b hb => k' b (N.1 b hb)
  · rw [hp]; exact D.wait.keep fun b hb => k' b (N.2 b hb)
  · rw [hs]; exact D.bs
  · rw [hp]; exact D.bw
  · intro b hb; rw [setsH_size]; exact D.lt b hb

/-- The safe bytes are others. -/
theorem RefIs.laid (D : RefIs I h B d σ w) (G : I.Good) {safe : List ByteArray} (hl : safe.length = σ.safe.length) (hz : ∀ s ∈ safe, s.size = 512)
    (ho : Own h' 0 I.tS 1 (.slice w.ps σ.safe.length w.cs) σ.safe.length (safe.map Value.string)) (g : Grown h h' (Value.slice w.ps σ.safe.length w.cs).ownBlock) : RefIs I h' B d { σ with safe := safe } w := by
  have N := D.ne G
  have k : ∀ b, b < h.size → (∀ q, (Value.slice w.ps σ.safe.length w.cs).ownBlock = some q → b ≠ q) → h'[b]? = h[b]? := fun b hb hn => g.block b hb fun e => hn b e.symm rfl
  have hcells : DS.rcells { σ with safe := safe } w = σ.rcells w := by simp only [DS.rcells, hl]
  refine ⟨?_, ?_, ?_, D.bd, ?_, D.bw, fun b hb => Nat.lt_of_lt_of_le (D.lt b hb) g.size, ⟨by show 1 ≤ safe.length; rw [hl]; exact D.ok.pos, by show safe.length ≤ _; rw [hl]; exact D.ok.most, hz, by show ∀ x ∈ σ.pend, x.1 < safe.length ∧ _; rw [hl]; exact D.ok.pend, D.ok.plan⟩, D.off⟩
  · rw [hcells, k d (D.lt d D.bd) fun q hq e => N.1 q hq e.symm]; exact D.cell
  · show Own h' 0 I.tS 1 (.slice w.ps safe.length w.cs) safe.length _
    rw [hl]; exact ho
  · refine D.wait.keep fun b hb => k b (D.lt b (D.bw b hb)) fun q hq e => ?_
    subst e
    obtain ⟨cur, hc⟩ := D.safe.blk hq
    obtain ⟨cur', hc'⟩ := D.wait.blk hb
    rw [hc] at hc'; injection hc' with hc'; injection hc' with _ hc'; exact G.sw hc'
  · show ∀ b, (Value.slice w.ps safe.length w.cs).ownBlock = some b → B b
    rw [hl]; exact D.bs

end

theorem DS.off_stepped {σ : DS} (h : σ.gone = true → σ.plan = 0) : σ.stepped.gone = true → σ.stepped.plan = 0 := by
  unfold DS.stepped
  split
  · exact h
  · intro hg
    have : decide (σ.plan = 1) = true := hg
    show σ.plan - 1 = 0
    have := of_decide_eq_true this
    omega

theorem DS.off_read {σ : DS} (h : σ.gone = true → σ.plan = 0) (n : Int) : (σ.read n).1.gone = true → (σ.read n).1.plan = 0 := by unfold DS.read; split <;> exact h
theorem DS.off_write {σ : DS} (h : σ.gone = true → σ.plan = 0) (n : Int) (s : ByteArray) : (σ.write n s).1.gone = true → (σ.write n s).1.plan = 0 := by
  unfold DS.write
  split
  · split
    · split
      · exact DS.off_stepped h
      · exact DS.off_stepped h
    · exact h
  · exact h
theorem DS.off_flush {σ : DS} (h : σ.gone = true → σ.plan = 0) : σ.flush.1.gone = true → σ.flush.1.plan = 0 := by
  unfold DS.flush
  split
  · exact h
  · split
    · exact DS.off_stepped h
    · exact DS.off_stepped h

end Go.Vc
