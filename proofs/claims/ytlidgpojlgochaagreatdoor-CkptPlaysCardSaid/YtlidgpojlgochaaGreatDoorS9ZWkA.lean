/- A disk at work. -/
import Derived.Test.YtlidgpojlgochaaGreatDoorS9ZFrX
set_option maxRecDepth 10000
namespace Go.Vc
open Go Go.Proofs Go.MapKept

/-- A disk at work, beside other things. -/
structure Wk (B : Nat → Prop) (h : Hp) (C : Nat → Prop) (hr : Hp) (d : Nat) (σ : DS) : Prop where
  same : Same B h hr
  disk : DiskAt dI hr C d σ
  sub : ∀ b, C b → B b ∨ h.size ≤ b

/-- What is not the disk's stays, and stays so. -/
def Kp (C : Nat → Prop) (hr : Hp) (C' : Nat → Prop) (hs : Hp) : Prop := hr.size ≤ hs.size ∧ ∀ b, b < hr.size → ¬ C b → ¬ C' b ∧ hs[b]? = hr[b]?

section
variable {B C C' C'' : Nat → Prop} {h hr hs ht : Hp} {d : Nat} {σ σ' : DS}

theorem Kp.trans (x : Kp C hr C' hs) (y : Kp C' hs C'' ht) : Kp C hr C'' ht :=
  ⟨Nat.le_trans x.1 y.1, fun b hb hn => by
    obtain ⟨h1, h2⟩ := x.2 b hb hn
    obtain ⟨h3, h4⟩ := y.2 b (Nat.lt_of_lt_of_le hb x.1) h1
    exact ⟨h3, h4.trans h2⟩⟩
theorem Kp.ext (C : Nat → Prop) (x : Ext hr hs) : Kp C hr C hs := ⟨x.size, fun b hb hn => ⟨hn, x.old b hb⟩⟩
theorem Wk.ext (W : Wk B h C hr d σ) (x : Ext hr hs) : Wk B h C hs d σ :=
  ⟨W.same.trans (x.same NoB) (fun _ hx _ => hx.elim), W.disk.ext x, W.sub⟩
theorem Wk.over (W : Wk B h C hr d σ) (x : Same C hr hs) : Same B h hs :=
  W.same.trans x fun b hb hl => (W.sub b hb).resolve_right (by omega)
theorem Wk.step (W : Wk B h C hr d σ) (x : Same C hr hs) (D : DiskAt dI hs (GrowB C hr hs) d σ') : Wk B h (GrowB C hr hs) hs d σ' ∧ Kp C hr (GrowB C hr hs) hs := by
  refine ⟨⟨W.over x, D, ?_⟩, x.size, fun b hb hn => ⟨?_, x.old b hb hn⟩⟩
  · rintro b (hb | hb)
    · exact W.sub b hb
    · have := W.same.size; exact .inr (by omega)
  · rintro (hc | hc)
    · exact hn hc
    · omega
theorem Wk.go (W : Wk B h C hr d σ) (x : Same C hr hs) (D : DiskAt dI hs C d σ') : Wk B h C hs d σ' ∧ Kp C hr C hs :=
  ⟨⟨W.over x, D, W.sub⟩, x.size, fun b hb hn => ⟨hn, x.old b hb hn⟩⟩
theorem Wk.push (W : Wk B h C hr d σ) {row : Option Nat} (g : Grown hr hs row) (hrow : ∀ b, row = some b → h.size ≤ b ∧ ¬ C b) : Wk B h C hs d σ :=
  ⟨⟨Nat.le_trans W.same.size g.size, fun b hb hn => (g.block b (Nat.lt_of_lt_of_le hb W.same.size) fun e => by have := (hrow b e.symm).1; omega).trans (W.same.old b hb hn)⟩,
    W.disk.keep g.size fun b hb => g.block b (W.disk.lt b hb) fun e => (hrow b e.symm).2 hb, W.sub⟩

theorem Wk.halves (W : Wk B h C hr d σ) (hh : Halves h) (h0 : ¬ B 0) : Halves hr ∧ ¬ C 0 :=
  ⟨hh.same W.same h0, fun hc => (W.sub 0 hc).elim h0 fun hl => by have := hh.pos; omega⟩

/-- Put, whatever comes. -/
theorem Wk.putX (W : Wk B h C hr d σ) (hh : Halves h) (h0 : ¬ B 0) (n : Int) {f : Frm} (ok : f.Ok) (hl : σ.pend.length ≤ 8796093022208) :
    CallsH Tryz.prog 44 #[vP d, vZ n, .agg (frmV f).toArray] hr fun e hs => ∃ C', Wk B h C' hs d (putF σ n f).1 ∧ Kp C hr C' hs ∧ e = .returned (vZ (putF σ n f).2) := by
  obtain ⟨h1, h2⟩ := W.halves hh h0
  refine (put_c W.disk h1 h2 n f ok hl).mono ?_
  rintro e hs ⟨y, D, rfl⟩
  obtain ⟨a, b⟩ := W.step y D
  exact ⟨_, a, b, rfl⟩

theorem Wk.getX (W : Wk B h C hr d σ) (hh : Halves h) (h0 : ¬ B 0) (n : Int) :
    CallsH Tryz.prog 48 #[vP d, vZ n] hr fun e hs => Wk B h C hs d (σ.read n).1 ∧ Kp C hr C hs ∧ e = .returned (.tuple #[.agg (frmV (getF σ n).1).toArray, vZ (getF σ n).2]) := by
  obtain ⟨h1, h2⟩ := W.halves hh h0
  refine (get_c W.disk h1 h2 n).mono ?_
  rintro e hs ⟨y, D, rfl⟩
  obtain ⟨a, b⟩ := W.go y D
  exact ⟨a, b, rfl⟩

theorem Wk.flush (W : Wk B h C hr d σ) : CallsH Tryz.prog 25 #[vP d] hr fun e hs => Wk B h C hs d σ.flush.1 ∧ Kp C hr C hs ∧ e = .returned (vZ σ.flush.2) := by
  refine (flush_c W.disk).mono ?_
  rintro e hs ⟨y, _, D, rfl⟩
  obtain ⟨a, b⟩ := W.go y D
  exact ⟨a, b, rfl⟩

theorem Wk.put (W : Wk B h C hr d σ) (hh : Halves h) (h0 : ¬ B 0) {n : Nat} {f : Frm} (hg : σ.gone = false) (hp : σ.plan = 0) (hn : n < σ.safe.length) (r : f.Right) (hl : σ.pend.length ≤ 8796093022208) :
    CallsH Tryz.prog 44 #[vP d, vI n, .agg (frmV f).toArray] hr fun e hs => ∃ C', Wk B h C' hs d { σ with reads := inc64 σ.reads, pend := σ.pend ++ [(n, tx (sealL f (markB (σ.look n))))], writes := inc64 σ.writes } ∧ Kp C hr C' hs ∧ e = .returned (vZ 0) := by
  obtain ⟨h1, h2⟩ := W.halves hh h0
  refine (put_c W.disk h1 h2 (n : Int) f r.ok hl).mono ?_
  rintro e hs ⟨y, D, rfl⟩
  rw [put_ok hg hp hn r] at D ⊢
  obtain ⟨a, b⟩ := W.step y D
  exact ⟨_, a, b, rfl⟩

theorem Wk.get (W : Wk B h C hr d σ) (hh : Halves h) (h0 : ¬ B 0) {n : Nat} (hg : σ.gone = false) (hn : n < σ.safe.length) :
    CallsH Tryz.prog 48 #[vP d, vI n] hr fun e hs => Wk B h C hs d { σ with reads := inc64 σ.reads } ∧ Kp C hr C hs ∧ e = .returned (.tuple #[.agg (frmV (openF (σ.look n)).1).toArray, vZ (openF (σ.look n)).2.2]) := by
  obtain ⟨h1, h2⟩ := W.halves hh h0
  refine (get_c W.disk h1 h2 (n : Int)).mono ?_
  rintro e hs ⟨y, D, rfl⟩
  rw [read_ok hg hn] at D
  rw [get_ok hg hn]
  obtain ⟨a, b⟩ := W.go y D
  exact ⟨a, b, rfl⟩

end

theorem Kp.frm {C C' : Nat → Prop} {hr hs : Hp} (k : Kp C hr C' hs) {b : Nat} {f : Frm} (c : hr[b]? = some (.cells (frmV f).toArray 95)) (hC : ¬ C b) : hs[b]? = some (.cells (frmV f).toArray 95) ∧ ¬ C' b := by
  obtain ⟨h1, h2⟩ := k.2 b (Array.getElem?_eq_some_iff.1 c).1 hC
  exact ⟨h2.trans c, h1⟩

theorem Kp.own {C C' : Nat → Prop} {hr hs : Hp} (k : Kp C hr C' hs) {base : Nat} {e : TypeId} {z : Nat} {v : Value} {n : Nat} {xs : List Value} (o : Own hr base e z v n xs) (hC : ∀ b, v.ownBlock = some b → ¬ C b) :
    Own hs base e z v n xs ∧ ∀ b, v.ownBlock = some b → ¬ C' b :=
  ⟨o.keep fun b hb => (k.2 b (o.lt hb).2 (hC b hb)).2, fun b hb => (k.2 b (o.lt hb).2 (hC b hb)).1⟩

theorem Wk.seg {B C : Nat → Prop} {h hr : Hp} {d : Nat} {σ : DS} (W : Wk B h C hr d σ) {p : Option Addr} {n z : Nat} {rows : List (List Value)} (hz : 0 < z) (s : SegS h p n z rows) (hB : ∀ b o, p = some ⟨b, o, none⟩ → rows ≠ [] → ¬ B b) :
    SegS hr p n z rows ∧ ∀ b o, p = some ⟨b, o, none⟩ → rows ≠ [] → ¬ C b :=
  ⟨s.keep fun b o hp h0 => W.same.old b (s.block hz hp h0) (hB b o hp h0), fun b o hp h0 hc => (W.sub b hc).elim (hB b o hp h0) fun hl => by have := s.block hz hp h0; omega⟩

/-- A disk at work; where its blocks are is left open. -/
def WkS (B : Nat → Prop) (g : Hp) (d : Nat) (hr : Hp) (σ : DS) : Prop := ∃ C, Wk B g C hr d σ ∧ Kp B g C hr

section
variable {B : Nat → Prop} {g hr hs : Hp} {d : Nat} {σ : DS}

theorem WkS.start (D : DiskAt dI g B d σ) : WkS B g d g σ := ⟨B, ⟨Same.refl _ _, D, fun _ hb => .inl hb⟩, Nat.le_refl _, fun _ _ hn => ⟨hn, rfl⟩⟩
theorem WkS.ext (W : WkS B g d hr σ) (x : Ext hr hs) : WkS B g d hs σ := let ⟨C, w, k⟩ := W; ⟨C, w.ext x, k.trans (Kp.ext C x)⟩
theorem WkS.old (W : WkS B g d hr σ) {b : Nat} (hb : b < g.size) (hn : ¬ B b) : hr[b]? = g[b]? := let ⟨_, _, k⟩ := W; (k.2 b hb hn).2
theorem WkS.size (W : WkS B g d hr σ) : g.size ≤ hr.size := let ⟨_, _, k⟩ := W; k.1
theorem WkS.put (W : WkS B g d hr σ) (hh : Halves g) (h0 : ¬ B 0) (n : Int) {f : Frm} (ok : f.Ok) (hl : σ.pend.length ≤ 8796093022208) :
    CallsH Tryz.prog 44 #[vP d, vZ n, .agg (frmV f).toArray] hr fun e hs => WkS B g d hs (putF σ n f).1 ∧ e = .returned (vZ (putF σ n f).2) := by
  obtain ⟨C, w, k⟩ := W
  refine (w.putX hh h0 n ok hl).mono ?_
  rintro e hs ⟨C', w', k', rfl⟩
  exact ⟨⟨C', w', k.trans k'⟩, rfl⟩
theorem WkS.get (W : WkS B g d hr σ) (hh : Halves g) (h0 : ¬ B 0) (n : Int) :
    CallsH Tryz.prog 48 #[vP d, vZ n] hr fun e hs => WkS B g d hs (σ.read n).1 ∧ e = .returned (.tuple #[.agg (frmV (getF σ n).1).toArray, vZ (getF σ n).2]) := by
  obtain ⟨C, w, k⟩ := W
  refine (w.getX hh h0 n).mono ?_
  rintro e hs ⟨w', k', rfl⟩
  exact ⟨⟨C, w', k.trans k'⟩, rfl⟩
theorem WkS.flush (W : WkS B g d hr σ) : CallsH Tryz.prog 25 #[vP d] hr fun e hs => WkS B g d hs σ.flush.1 ∧ e = .returned (vZ σ.flush.2) := by
  obtain ⟨C, w, k⟩ := W
  refine w.flush.mono ?_
  rintro e hs ⟨w', k', rfl⟩
  exact ⟨⟨C, w', k.trans k'⟩, rfl⟩
/-- What was done, told from before the work began. -/
theorem WkS.done {h : Hp} (W : WkS B g d hr σ) (x : Ext h g) (hB : ∀ b, B b → b < h.size) : Same B h hr ∧ DiskAt dI hr (GrowB B h hr) d σ := by
  obtain ⟨C, w, k⟩ := W
  have y : Same B h hr := (x.same B).trans w.same fun _ h _ => h
  refine ⟨y, w.disk.more (fun b hb => ?_) (GrowB.lt hB y.size)⟩
  rcases w.sub b hb with hb' | hb'
  · exact .inl hb'
  · exact .inr ⟨by have := x.size; omega, w.disk.lt b hb⟩
end

end Go.Vc
