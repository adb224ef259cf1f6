/- A disk, as numbers and texts; and that it lies in memory. -/
import Derived.Test.YthkbecpgbjejkaaDoorVcO
set_option maxRecDepth 10000
namespace Go.Vc
open Go Go.MapKept

structure DS where
  safe : List ByteArray
  pend : List (Nat × ByteArray)
  gone : Bool
  plan : Nat
  reads : Int
  writes : Int
  flushes : Int

def inc64 (n : Int) : Int := IntKind.i64.wrap (n + 1)

/-- What was written last into a sector. -/
def lastOf (l : List (Nat × ByteArray)) (n : Nat) : Option ByteArray := l.foldl (fun acc x => if x.1 = n then some x.2 else acc) none

theorem lastOf_snoc (l : List (Nat × ByteArray)) (x : Nat × ByteArray) (n : Nat) : lastOf (l ++ [x]) n = if x.1 = n then some x.2 else lastOf l n := by
  unfold lastOf; rw [List.foldl_append]; rfl

/-- A text over another one, of which so many bytes are kept. -/
def layT (x s : ByteArray) (k : Nat) : ByteArray := s.extract 0 k ++ x.extract k x.size
def layD (safe : List ByteArray) (w : Nat × ByteArray) (k : Nat) : List ByteArray := safe.modify w.1 fun x => layT x w.2 k

theorem layD_length (safe : List ByteArray) (w : Nat × ByteArray) (k : Nat) : (layD safe w k).length = safe.length := by
  unfold layD; simp

theorem layT_size {x s : ByteArray} {k : Nat} (hx : x.size = 512) (hs : s.size = 512) (hk : k ≤ 512) : (layT x s k).size = 512 := by
  unfold layT
  rw [ByteArray.size_append, ByteArray.size_extract, ByteArray.size_extract]
  omega

theorem layD_size {safe : List ByteArray} {w : Nat × ByteArray} {k : Nat} (h : ∀ s ∈ safe, s.size = 512) (hw : w.2.size = 512) (hk : k ≤ 512) : ∀ s ∈ layD safe w k, s.size = 512 := by
  intro s hs
  obtain ⟨i, hi, rfl⟩ := List.getElem_of_mem hs
  unfold layD at hi ⊢
  rw [List.getElem_modify]
  split
  · exact layT_size (h _ (List.getElem_mem _)) hw hk
  · exact h _ (List.getElem_mem _)

/-- A write over a sector, as a list's element is set. -/
theorem layD_set {safe : List ByteArray} {n : Nat} {s : ByteArray} {k : Nat} (hn : n < safe.length) : layD safe (n, s) k = safe.set n (layT safe[n] s k) := by
  unfold layD
  apply List.ext_getElem (by simp)
  intro i h1 h2
  rw [List.getElem_modify, List.getElem_set]
  split
  · rename_i e
    have e' : n = i := e
    subst e'
    rfl
  · rfl

structure DS.Ok (σ : DS) : Prop where
  pos : 1 ≤ σ.safe.length
  most : σ.safe.length ≤ 4096
  size : ∀ s ∈ σ.safe, s.size = 512
  pend : ∀ x ∈ σ.pend, x.1 < σ.safe.length ∧ x.2.size = 512
  plan : σ.plan ≤ 9223372036854775807

def DS.asked (σ : DS) (n : Int) : Int := if σ.gone then 40 else if n < 0 ∨ (σ.safe.length : Int) ≤ n then 41 else 0
def DS.look (σ : DS) (n : Nat) : ByteArray := (lastOf σ.pend n).getD (σ.safe.getD n ByteArray.empty)
def DS.stepped (σ : DS) : DS := if σ.plan = 0 then σ else { σ with plan := σ.plan - 1, gone := decide (σ.plan = 1) }
def DS.read (σ : DS) (n : Int) : DS × ByteArray × Int := if σ.asked n = 0 then ({ σ with reads := inc64 σ.reads }, σ.look n.toNat, 0) else (σ, ByteArray.empty, σ.asked n)
def DS.write (σ : DS) (n : Int) (s : ByteArray) : DS × Int :=
  if σ.asked n = 0 then if s.size = 512 then if σ.stepped.gone then (σ.stepped, 40) else ({ σ.stepped with pend := σ.pend ++ [(n.toNat, s)], writes := inc64 σ.writes }, 0) else (σ, 42) else (σ, σ.asked n)
def layAll (safe : List ByteArray) (l : List (Nat × ByteArray)) : List ByteArray := l.foldl (fun sf w => layD sf w 512) safe
def DS.flush (σ : DS) : DS × Int :=
  if σ.gone then (σ, 40) else if σ.stepped.gone then (σ.stepped, 40) else ({ σ.stepped with safe := layAll σ.safe σ.pend, pend := [], flushes := inc64 σ.flushes }, 0)
def keptN (f : Int × Int) : Nat := if f.1 = 1 then 512 else if f.1 = 2 then (min (max f.2 0) 512).toNat else 0
def layFates (safe : List ByteArray) (l : List (Nat × ByteArray)) (fates : List (Int × Int)) : List ByteArray := (l.zip fates).foldl (fun sf x => layD sf x.1 (keptN x.2)) safe
def DS.crash (σ : DS) (fates : List (Int × Int)) : DS := { σ with safe := layFates σ.safe σ.pend fates, pend := [], gone := false, plan := 0 }
def DS.cut (σ : DS) (steps : Int) : DS := if σ.gone then σ else { σ with plan := (max steps 0).toNat }
def DS.image (σ : DS) : ByteArray := ⟨((σ.safe.map fun b => b.data.toList).flatten).toArray⟩
def zero512 : ByteArray := ⟨(List.replicate 512 (0 : UInt8)).toArray⟩
def DS.fresh (safe : List ByteArray) : DS := { safe := safe, pend := [], gone := false, plan := 0, reads := 0, writes := 0, flushes := 0 }
def DS.new (n : Nat) : DS := DS.fresh (List.replicate n zero512)

theorem keptN_le (f : Int × Int) : keptN f ≤ 512 := by unfold keptN; split <;> (try split) <;> omega

theorem zero512_size : zero512.size = 512 := by show Array.size _ = 512; simp

theorem DS.stepped_safe (σ : DS) : σ.stepped.safe = σ.safe ∧ σ.stepped.pend = σ.pend ∧ σ.stepped.reads = σ.reads ∧ σ.stepped.writes = σ.writes ∧ σ.stepped.flushes = σ.flushes := by
  unfold DS.stepped; split <;> exact ⟨rfl, rfl, rfl, rfl, rfl⟩

theorem DS.Ok.stepped {σ : DS} (h : σ.Ok) : σ.stepped.Ok := by
  unfold DS.stepped
  split
  · exact h
  · exact ⟨h.pos, h.most, h.size, h.pend, by have := h.plan; show σ.plan - 1 ≤ _; omega⟩

theorem DS.Ok.read {σ : DS} (h : σ.Ok) (n : Int) : (σ.read n).1.Ok := by
  unfold DS.read
  split
  · exact ⟨h.pos, h.most, h.size, h.pend, h.plan⟩
  · exact h

theorem DS.asked_zero {σ : DS} {n : Int} (h : σ.asked n = 0) : σ.gone = false ∧ 0 ≤ n ∧ n < σ.safe.length := by
  unfold DS.asked at h
  split at h
  · cases h
  · split at h
    · cases h
    · rename_i h1 h2; exact ⟨by simpa using h1, by omega, by omega⟩

theorem DS.Ok.pushed {σ : DS} (h : σ.Ok) {n : Nat} {s : ByteArray} (hn : n < σ.safe.length) (hs : s.size = 512) {w : Int} : DS.Ok { σ with pend := σ.pend ++ [(n, s)], writes := w } :=
  ⟨h.pos, h.most, h.size, by intro x hx; rcases List.mem_append.1 hx with hx | hx; exact h.pend x hx; simp at hx; subst hx; exact ⟨hn, hs⟩, h.plan⟩

theorem DS.Ok.write {σ : DS} (h : σ.Ok) (n : Int) (s : ByteArray) : (σ.write n s).1.Ok := by
  unfold DS.write
  split
  · rename_i ha
    obtain ⟨_, h1, h2⟩ := DS.asked_zero ha
    split
    · rename_i hs
      split
      · exact h.stepped
      · have := h.stepped.pushed (n := n.toNat) (s := s) (by rw [σ.stepped_safe.1]; omega) hs (w := inc64 σ.writes)
        rw [σ.stepped_safe.2.1] at this
        exact this
    · exact h
  · exact h

theorem layAll_ok : ∀ (l : List (Nat × ByteArray)) (safe : List ByteArray), (∀ s ∈ safe, s.size = 512) → (∀ x ∈ l, x.2.size = 512) → (∀ s ∈ layAll safe l, s.size = 512) ∧ (layAll safe l).length = safe.length := by
  intro l
  induction l with
  | nil => exact fun safe h _ => ⟨h, rfl⟩
  | cons x r ih =>
    intro safe h hl
    obtain ⟨h1, h2⟩ := ih (layD safe x 512) (layD_size h (hl x (by simp)) (Nat.le_refl _)) (fun y hy => hl y (by simp [hy]))
    exact ⟨h1, h2.trans (layD_length _ _ _)⟩

theorem layFates_ok : ∀ (l : List (Nat × ByteArray)) (fates : List (Int × Int)) (safe : List ByteArray), (∀ s ∈ safe, s.size = 512) → (∀ x ∈ l, x.2.size = 512) → (∀ s ∈ layFates safe l fates, s.size = 512) ∧ (layFates safe l fates).length = safe.length := by
  intro l
  induction l with
  | nil => exact fun _ safe h _ => ⟨h, rfl⟩
  | cons x r ih =>
    intro fates safe h hl
    cases fates with
    | nil => exact ⟨h, rfl⟩
    | cons f fs =>
      obtain ⟨h1, h2⟩ := ih fs (layD safe x (keptN f)) (layD_size h (hl x (by simp)) (keptN_le f)) (fun y hy => hl y (by simp [hy]))
      exact ⟨h1, h2.trans (layD_length _ _ _)⟩

theorem DS.Ok.cleared {σ : DS} (h : σ.Ok) {safe : List ByteArray} (h1 : ∀ s ∈ safe, s.size = 512) (h2 : safe.length = σ.safe.length) {g : Bool} {p : Nat} (hp : p ≤ 9223372036854775807) {f : Int} : DS.Ok { σ with safe := safe, pend := [], gone := g, plan := p, flushes := f } :=
  ⟨by rw [h2]; exact h.pos, by rw [h2]; exact h.most, h1, by simp, hp⟩

theorem DS.Ok.flush {σ : DS} (h : σ.Ok) : σ.flush.1.Ok := by
  unfold DS.flush
  split
  · exact h
  · split
    · exact h.stepped
    · obtain ⟨h1, h2⟩ := layAll_ok σ.pend σ.safe h.size fun x hx => (h.pend x hx).2
      exact h.stepped.cleared h1 (by rw [σ.stepped_safe.1]; exact h2) h.stepped.plan

theorem DS.Ok.crash {σ : DS} (h : σ.Ok) (fates : List (Int × Int)) : (σ.crash fates).Ok := by
  obtain ⟨h1, h2⟩ := layFates_ok σ.pend fates σ.safe h.size fun x hx => (h.pend x hx).2
  exact h.cleared h1 h2 (Nat.zero_le _)

theorem DS.Ok.cut {σ : DS} (h : σ.Ok) (n : Int) (hn : n ≤ 9223372036854775807) : (σ.cut n).Ok := by
  unfold DS.cut
  split
  · exact h
  · exact ⟨h.pos, h.most, h.size, h.pend, by show (max n 0).toNat ≤ _; omega⟩

theorem DS.Ok.fresh {safe : List ByteArray} (h1 : 1 ≤ safe.length) (h2 : safe.length ≤ 4096) (h3 : ∀ s ∈ safe, s.size = 512) : (DS.fresh safe).Ok := ⟨h1, h2, h3, by simp [DS.fresh], Nat.zero_le _⟩

/-! ## In memory -/

/-- The numbers of the types, and of the function that lays a write down. -/
structure DIds where
  tS : Nat
  tI : Nat
  tL : Nat
  tD : Nat
  F : Nat

structure DIds.Good (I : DIds) : Prop where
  sd : I.tS ≠ I.tD
  id : I.tI ≠ I.tD
  ld : I.tL ≠ I.tD
  si : I.tS ≠ I.tI
  sl : I.tS ≠ I.tL
  il : I.tI ≠ I.tL

/-- Where a disk's parts lie. -/
structure DW where
  ps : Option Addr
  cs : Nat
  r : Nat
  po : Option Addr
  co : Nat
  pl : Option Addr
  cl : Nat
  l : List (Value × Value)
  cv : List (Nat × Nat)

def DS.cells (σ : DS) (w : DW) : List Value :=
  [.slice w.ps σ.safe.length w.cs, .map (some w.r), .slice w.po σ.pend.length w.co, .slice w.pl σ.pend.length w.cl, .bool σ.gone, vI σ.plan, vZ σ.reads, vZ σ.writes, vZ σ.flushes]

def layV (F : Nat) (c : Nat × Nat) : Value := .func (.func F) #[] #[vP c.2, vP c.1]

/-- The map of what sectors read as. -/
structure NowOk (l : List (Value × Value)) (pend : List (Nat × ByteArray)) : Prop where
  keys : ∀ x ∈ l, ∃ (n : Nat) (s : ByteArray), x = (vI n, .string s)
  nodup : (l.map (·.1)).Nodup
  get : ∀ (n : Nat) (s : ByteArray), (vI n, Value.string s) ∈ l ↔ lastOf pend n = some s

theorem NowOk.nil : NowOk [] [] := ⟨by simp, by simp, by simp [lastOf]⟩

theorem NowOk.isKey {l : List (Value × Value)} {pend : List (Nat × ByteArray)} (h : NowOk l pend) : ∀ x ∈ l, IsKey (.int .i64) x.1 := by
  intro x hx
  obtain ⟨n, s, rfl⟩ := h.keys x hx
  exact rfl

theorem NowOk.new {l : List (Value × Value)} {pend : List (Nat × ByteArray)} (h : NowOk l pend) {n : Nat} {s : ByteArray} (hn : ∀ x ∈ l, x.1 ≠ vI n) : NowOk (l ++ [(vI n, .string s)]) (pend ++ [(n, s)]) := by
  refine ⟨?_, ?_, ?_⟩
  · intro x hx
    rcases List.mem_append.1 hx with hx | hx
    · exact h.keys x hx
    · simp at hx; exact ⟨n, s, hx⟩
  · rw [List.map_append, List.nodup_append]
    refine ⟨h.nodup, by simp, ?_⟩
    intro a ha b hb
    simp at hb
    subst hb
    obtain ⟨x, hx, rfl⟩ := List.mem_map.1 ha
    exact hn x hx
  · intro m t
    rw [lastOf_snoc, List.mem_append, h.get]
    by_cases hnm : n = m
    · subst hnm
      rw [if_pos rfl]
      have : ¬ lastOf pend n = some t := fun hl => hn _ ((h.get n t).2 hl) rfl
      simp [this, eq_comm]
    · rw [if_neg hnm]
      constructor
      · rintro (hl | hl)
        · exact hl
        · simp at hl; omega
      · exact .inl

theorem NowOk.old {l : List (Value × Value)} {pend : List (Nat × ByteArray)} (h : NowOk l pend) {n : Nat} {s : ByteArray} {j : Nat} {u : Value} (hj : l[j]? = some (vI n, u)) : NowOk (l.set j (vI n, .string s)) (pend ++ [(n, s)]) := by
  obtain ⟨hjl, hje⟩ := List.getElem?_eq_some_iff.1 hj
  have hmap : (l.set j (vI n, Value.string s)).map (·.1) = l.map (·.1) := by
    rw [List.map_set]
    apply List.ext_getElem?
    intro i
    rw [List.getElem?_set]
    split
    · rename_i he; subst he
      simp [hjl, hje]
    · rfl
  have hnd : ∀ i (hi : i < l.length), l[i].1 = vI n → i = j := by
    intro i hi he
    have h1 : i < (l.map (·.1)).length := by simpa using hi
    have h2 : j < (l.map (·.1)).length := by simpa using hjl
    exact (List.getElem_inj (h₀ := h1) (h₁ := h2) h.nodup).1 (by simp [he, hje])
  refine ⟨?_, by rw [hmap]; exact h.nodup, ?_⟩
  · intro x hx
    rcases List.mem_or_eq_of_mem_set hx with hx | hx
    · exact h.keys x hx
    · exact ⟨n, s, hx⟩
  · intro m t
    rw [lastOf_snoc]
    by_cases hnm : n = m
    · subst hnm
      rw [if_pos rfl]
      constructor
      · intro hm
        obtain ⟨i, hi, he⟩ := List.getElem_of_mem hm
        rw [List.getElem_set] at he
        split at he
        · cases he; rfl
        · rename_i hne
          exfalso
          have hi' : i < l.length := by simpa using hi
          exact hne (hnd i hi' (by rw [he])).symm
      · intro he
        cases he
        exact List.mem_iff_getElem.2 ⟨j, by simpa using hjl, by simp⟩
    · rw [if_neg hnm, ← h.get]
      constructor
      · intro hm
        rcases List.mem_or_eq_of_mem_set hm with hm | hm
        · exact hm
        · cases hm; omega
      · intro hm
        obtain ⟨i, hi, he⟩ := List.getElem_of_mem hm
        refine List.mem_iff_getElem.2 ⟨i, by simpa using hi, ?_⟩
        rw [List.getElem_set_ne, he]
        intro hji
        subst hji
        rw [hje] at he
        cases he
        omega

structure DiskIs (I : DIds) (h : Hp) (B : Nat → Prop) (d : Nat) (σ : DS) (w : DW) : Prop where
  cell : h[d]? = some (.cells (σ.cells w).toArray I.tD)
  safe : Own h 0 I.tS 1 (.slice w.ps σ.safe.length w.cs) σ.safe.length (σ.safe.map Value.string)
  order : Own h 0 I.tI 1 (.slice w.po σ.pend.length w.co) σ.pend.length (σ.pend.map fun x => vI x.1)
  lays : Own h 0 I.tL 1 (.slice w.pl σ.pend.length w.cl) σ.pend.length (w.cv.map (layV I.F))
  caught : ∀ i (hi : i < σ.pend.length), ∃ c, w.cv[i]? = some c ∧ h[c.1]? = some (.cells #[vI σ.pend[i].1] I.tI) ∧ h[c.2]? = some (.cells #[.string σ.pend[i].2] I.tS)
  map : MapAt h w.r w.l
  now : NowOk w.l σ.pend
  bd : B d
  br : B w.r
  bs : ∀ b, (Value.slice w.ps σ.safe.length w.cs).ownBlock = some b → B b
  bo : ∀ b, (Value.slice w.po σ.pend.length w.co).ownBlock = some b → B b
  bl : ∀ b, (Value.slice w.pl σ.pend.length w.cl).ownBlock = some b → B b
  bc : ∀ c ∈ w.cv, B c.1 ∧ B c.2
  apart : ∀ c ∈ w.cv, (Value.slice w.po σ.pend.length w.co).ownBlock ≠ some c.1 ∧ (Value.slice w.ps σ.safe.length w.cs).ownBlock ≠ some c.2
  lt : ∀ b, B b → b < h.size
  ok : σ.Ok

/-- At 'd' lies a disk; all that it needs lies in these blocks. -/
def DiskAt (I : DIds) (h : Hp) (B : Nat → Prop) (d : Nat) (σ : DS) : Prop := ∃ w, DiskIs I h B d σ w

section
variable {I : DIds} {h h' : Hp} {B C : Nat → Prop} {d : Nat} {σ : DS} {w : DW}

theorem DiskIs.keep (D : DiskIs I h B d σ w) (hs : h.size ≤ h'.size) (k : ∀ b, B b → h'[b]? = h[b]?) : DiskIs I h' B d σ w where
  cell := (k d D.bd).trans D.cell
  safe := D.safe.keep fun b hb => k b (D.bs b hb)
  order := D.order.keep fun b hb => k b (D.bo b hb)
  lays := D.lays.keep fun b hb => k b (D.bl b hb)
  caught := fun i hi => by
    obtain ⟨c, h1, h2, h3⟩ := D.caught i hi
    have := D.bc c (List.mem_of_getElem? h1)
    exact ⟨c, h1, (k _ this.1).trans h2, (k _ this.2).trans h3⟩
  map := D.map.congr (k _ D.br)
  now := D.now
  bd := D.bd
  br := D.br
  bs := D.bs
  bo := D.bo
  bl := D.bl
  bc := D.bc
  apart := D.apart
  lt := fun b hb => Nat.lt_of_lt_of_le (D.lt b hb) hs
  ok := D.ok

theorem DiskIs.more (D : DiskIs I h B d σ w) (hC : ∀ b, B b → C b) (hl : ∀ b, C b → b < h.size) : DiskIs I h C d σ w :=
  { D with bd := hC _ D.bd, br := hC _ D.br, bs := fun b hb => hC _ (D.bs b hb), bo := fun b hb => hC _ (D.bo b hb), bl := fun b hb => hC _ (D.bl b hb), bc := fun c hc => ⟨hC _ (D.bc c hc).1, hC _ (D.bc c hc).2⟩, lt := hl }

theorem DiskAt.keep (D : DiskAt I h B d σ) (hs : h.size ≤ h'.size) (k : ∀ b, B b → h'[b]? = h[b]?) : DiskAt I h' B d σ := let ⟨w, D⟩ := D; ⟨w, D.keep hs k⟩
theorem DiskAt.ext (D : DiskAt I h B d σ) (x : Ext h h') : DiskAt I h' B d σ := let ⟨w, D⟩ := D; ⟨w, D.keep x.size fun b hb => x.old b (D.lt b hb)⟩
theorem DiskAt.other (D : DiskAt I h B d σ) (x : Same C h h') (hC : ∀ b, B b → ¬ C b) : DiskAt I h' B d σ := let ⟨w, D⟩ := D; ⟨w, D.keep x.size fun b hb => x.old b (D.lt b hb) (hC b hb)⟩
theorem DiskAt.more (D : DiskAt I h B d σ) (hC : ∀ b, B b → C b) (hl : ∀ b, C b → b < h.size) : DiskAt I h C d σ := let ⟨w, D⟩ := D; ⟨w, D.more hC hl⟩
theorem DiskAt.lt (D : DiskAt I h B d σ) : ∀ b, B b → b < h.size := let ⟨_, D⟩ := D; D.lt
theorem DiskAt.ok (D : DiskAt I h B d σ) : σ.Ok := let ⟨_, D⟩ := D; D.ok
theorem DiskAt.bd (D : DiskAt I h B d σ) : B d := let ⟨_, D⟩ := D; D.bd

theorem DiskIs.wr (D : DiskIs I h B d σ w) {k : Nat} (hk : k < 9) : wrAt h d k 1 := wrAt_of D.cell (show k + 1 ≤ 9 by omega) (.inl (Nat.zero_le _))

/-- The disk's own cell stands apart from all else of it. -/
theorem DiskIs.ne (D : DiskIs I h B d σ w) (G : I.Good) : w.r ≠ d ∧ (∀ b, (Value.slice w.ps σ.safe.length w.cs).ownBlock = some b → b ≠ d) ∧ (∀ b, (Value.slice w.po σ.pend.length w.co).ownBlock = some b → b ≠ d) ∧
    (∀ b, (Value.slice w.pl σ.pend.length w.cl).ownBlock = some b → b ≠ d) ∧ ∀ i (hi : i < σ.pend.length) c, w.cv[i]? = some c → c.1 ≠ d ∧ c.2 ≠ d := by
  refine ⟨?_, ?_, ?_, ?_, ?_⟩
  · intro e
    obtain ⟨es, c, hm, _⟩ := D.map
    rw [e, D.cell] at hm; cases hm
  · intro b hb e
    obtain ⟨cur, hc⟩ := D.safe.blk hb
    rw [e, D.cell] at hc; injection hc with hc; injection hc with _ hc; exact G.sd hc.symm
  · intro b hb e
    obtain ⟨cur, hc⟩ := D.order.blk hb
    rw [e, D.cell] at hc; injection hc with hc; injection hc with _ hc; exact G.id hc.symm
  · intro b hb e
    obtain ⟨cur, hc⟩ := D.lays.blk hb
    rw [e, D.cell] at hc; injection hc with hc; injection hc with _ hc; exact G.ld hc.symm
  · intro i hi c hc
    obtain ⟨c', h1, h2, h3⟩ := D.caught i hi
    rw [hc] at h1; cases h1
    constructor
    · intro e; rw [e, D.cell] at h2; injection h2 with h2; injection h2 with _ h2; exact G.id h2.symm
    · intro e; rw [e, D.cell] at h3; injection h3 with h3; injection h3 with _ h3; exact G.sd h3.symm

end

end Go.Vc
