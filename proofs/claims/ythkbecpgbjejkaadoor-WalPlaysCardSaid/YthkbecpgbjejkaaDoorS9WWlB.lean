import Derived.Test.YthkbecpgbjejkaaDoorS9WFrX
set_option maxRecDepth 10000
/- The log: what it is, and its small functions. -/
namespace Go.Vc
open Go Go.Proofs Go.MapKept

theorem uPL : Tryd.prog.underlying 24 = some (.pointer 86) := by kernel_rfl

/-! ## What stays -/

/-- What is not in here stays, and stays so. -/
def Kp (C : Nat → Prop) (hr : Hp) (C' : Nat → Prop) (hs : Hp) : Prop := hr.size ≤ hs.size ∧ ∀ b, b < hr.size → ¬ C b → ¬ C' b ∧ hs[b]? = hr[b]?

section
variable {C C' C'' : Nat → Prop} {hr hs ht : Hp}
theorem Kp.trans (x : Kp C hr C' hs) (y : Kp C' hs C'' ht) : Kp C hr C'' ht :=
  ⟨Nat.le_trans x.1 y.1, fun b hb hn => by
    obtain ⟨h1, h2⟩ := x.2 b hb hn
    obtain ⟨h3, h4⟩ := y.2 b (Nat.lt_of_lt_of_le hb x.1) h1
    exact ⟨h3, h4.trans h2⟩⟩
theorem Kp.refl (C : Nat → Prop) (hr : Hp) : Kp C hr C hr := ⟨Nat.le_refl _, fun _ _ hn => ⟨hn, rfl⟩⟩
theorem Kp.ext (C : Nat → Prop) (x : Ext hr hs) : Kp C hr C hs := ⟨x.size, fun b hb hn => ⟨hn, x.old b hb⟩⟩
theorem Kp.same (x : Same C hr hs) : Kp C hr C hs := ⟨x.size, fun b hb hn => ⟨hn, x.old b hb hn⟩⟩
theorem Kp.grow (x : Same C hr hs) : Kp C hr (GrowB C hr hs) hs :=
  ⟨x.size, fun b hb hn => ⟨by rintro (hc | hc); exact hn hc; omega, x.old b hb hn⟩⟩
theorem Kp.old (k : Kp C hr C' hs) {b : Nat} {o : Obj} (c : hr[b]? = some o) (hC : ¬ C b) : hs[b]? = some o := ((k.2 b (Array.getElem?_eq_some_iff.1 c).1 hC).2).trans c
theorem Kp.no (k : Kp C hr C' hs) {b : Nat} (hb : b < hr.size) (hC : ¬ C b) : ¬ C' b := (k.2 b hb hC).1
theorem Kp.own (k : Kp C hr C' hs) {base : Nat} {e : TypeId} {z : Nat} {v : Value} {n : Nat} {xs : List Value} (o : Own hr base e z v n xs) (hC : ∀ b, v.ownBlock = some b → ¬ C b) :
    Own hs base e z v n xs ∧ ∀ b, v.ownBlock = some b → ¬ C' b :=
  ⟨o.keep fun b hb => (k.2 b (o.lt hb).2 (hC b hb)).2, fun b hb => (k.2 b (o.lt hb).2 (hC b hb)).1⟩
theorem Kp.same_of (k : Kp C hr C' hs) : Same C hr hs := ⟨k.1, fun b hb hn => (k.2 b hb hn).2⟩
theorem Halves.lt {h : Hp} (x : Halves h) : 2 < h.size := cellH_lt (cellsAt_iff.1 x 0 (by decide))
theorem Kp.halves (k : Kp C hr C' hs) (x : Halves hr) (hC : ¬ C 2) : Halves hs ∧ ¬ C' 2 :=
  ⟨x.same k.same_of hC, k.no x.lt hC⟩
end

/-! ## What a log is -/

structure Lg where
  first : Nat
  count : Nat
  epoch : Nat
  i : Nat
  opn : List UInt8
  dead : Bool

structure Lg.Ok (L : Lg) : Prop where
  pos : 1 ≤ L.count
  fit : L.first + L.count ≤ 4096
  ep : L.epoch < 18446744073709551616
  le : L.i ≤ L.count
  op : L.opn.length ≤ 491

def Lg.frm (L : Lg) : Frm := ⟨3, L.epoch, L.i, tx L.opn⟩
def Lg.roomZ (L : Lg) : Int := if L.i = L.count then 0 else 491 - L.opn.length
def Lg.cap (L : Lg) : Nat := (488 - L.opn.length) + 488 * (L.count - L.i - 1)
def Lg.free (L : Lg) : Nat := if L.dead = true ∨ L.i = L.count then 0 else min L.cap 65536
def writeL (σ : DS) (L : Lg) : DS × Lg × Int :=
  if (putF σ ((L.first + L.i : Nat) : Int) L.frm).2 ≠ 0 then ((putF σ ((L.first + L.i : Nat) : Int) L.frm).1, { L with dead := true }, (putF σ ((L.first + L.i : Nat) : Int) L.frm).2)
  else ((putF σ ((L.first + L.i : Nat) : Int) L.frm).1, { L with i := L.i + 1, opn := [] }, 0)
def kindB (b e : Bool) : Nat := if b && e then 1 else if b then 2 else if e then 4 else 3
def pieceB (k : Nat) (s : List UInt8) : List UInt8 := UInt8.ofNat k :: UInt8.ofNat (s.length / 256) :: UInt8.ofNat s.length :: s
def endS (x : DS × Int) (L : Lg) : DS × Lg × Int := (x.1, { L with dead := decide (x.2 ≠ 0) }, x.2)
def syncL (σ : DS) (L : Lg) : DS × Lg × Int :=
  if L.dead = true then (σ, L, 191)
  else if L.opn = [] then endS σ.flush L
  else if (writeL σ L).2.2 ≠ 0 then writeL σ L else endS (writeL σ L).1.flush (writeL σ L).2.1
def stepN (L : Lg) (r : List UInt8) : Nat := min r.length (488 - L.opn.length)
def putL (b : Bool) (r : List UInt8) (L : Lg) : Lg := { L with opn := L.opn ++ pieceB (kindB b (decide (stepN L r = r.length))) (r.take (stepN L r)) }
/-- A record's pieces, from one of them on. -/
def appR : Nat → Bool → List UInt8 → DS → Lg → DS × Lg × Int
  | 0, _, _, σ, L => (σ, L, 0)
  | k + 1, b, r, σ, L => if r = [] then (σ, L, 0)
    else if 488 ≤ (putL b r L).opn.length then
      (if (writeL σ (putL b r L)).2.2 ≠ 0 then writeL σ (putL b r L) else appR k false (r.drop (stepN L r)) (writeL σ (putL b r L)).1 (writeL σ (putL b r L)).2.1)
    else appR k false (r.drop (stepN L r)) σ (putL b r L)
def appL (σ : DS) (L : Lg) (r : ByteArray) : DS × Lg × Int :=
  if L.dead = true then (σ, L, 191) else if r = ⟨#[]⟩ then (σ, L, 1) else if 65536 < r.size then (σ, L, 2) else if L.free < r.size then (σ, L, 190)
  else appR r.size true (bl r) σ L

def regionB (n : Nat) (first count : Int) : Bool := decide (0 ≤ first ∧ 1 ≤ count ∧ first < n ∧ count ≤ n - first)
def epochB (e : Nat) : Bool := decide (1 ≤ e ∧ e ≤ 9223372036854775807)
def newL (first count : Int) (e : Nat) : Lg := ⟨first.toNat, count.toNat, e, 0, [], false⟩

/-! ## How it lies in memory -/

def logV (d : Nat) (L : Lg) (p : Option Addr) (c : Nat) : List Value := [vP d, vI L.first, vI L.count, vU L.epoch, vI L.i, .slice p L.opn.length c, .bool L.dead]

/-- A log beside its disk. -/
structure LdX (C D : Nat → Prop) (h : Hp) (d : Nat) (σ : DS) (l : Nat) (L : Lg) (p : Option Addr) (c : Nat) : Prop where
  disk : DiskAt dI h D d σ
  sub : ∀ b, D b → C b
  cell : h[l]? = some (.cells (logV d L p c).toArray 86)
  cl : C l
  dl : ¬ D l
  row : Own h 0 5 1 (.slice p L.opn.length c) L.opn.length (byteVs L.opn)
  own : ∀ b, (Value.slice p L.opn.length c).ownBlock = some b → C b ∧ ¬ D b
  lt : ∀ b, C b → b < h.size

def LD (C : Nat → Prop) (h : Hp) (d : Nat) (σ : DS) (l : Nat) (L : Lg) : Prop := ∃ D p c, LdX C D h d σ l L p c

section
variable {C D : Nat → Prop} {h hr hs : Hp} {d l : Nat} {σ σ' : DS} {L : Lg} {p : Option Addr} {c : Nat}

theorem LdX.ext (W : LdX C D h d σ l L p c) (x : Ext h hs) : LdX C D hs d σ l L p c :=
  ⟨W.disk.ext x, W.sub, (x.old l (W.lt l W.cl)).trans W.cell, W.cl, W.dl, W.row.ext x, W.own, fun b hb => Nat.lt_of_lt_of_le (W.lt b hb) x.size⟩
theorem LD.ext (W : LD C h d σ l L) (x : Ext h hs) : LD C hs d σ l L := let ⟨D, p, c, w⟩ := W; ⟨D, p, c, w.ext x⟩
theorem LD.lt (W : LD C h d σ l L) : ∀ b, C b → b < h.size := let ⟨_, _, _, w⟩ := W; w.lt
theorem LD.keep (W : LD C h d σ l L) (hs : h.size ≤ hr.size) (k : ∀ b, C b → hr[b]? = h[b]?) : LD C hr d σ l L := by
  obtain ⟨D, p, c, w⟩ := W
  exact ⟨D, p, c, w.disk.keep hs fun b hb => k b (w.sub b hb), w.sub, (k l w.cl).trans w.cell, w.cl, w.dl, w.row.keep fun b hb => k b (w.own b hb).1, w.own, fun b hb => Nat.lt_of_lt_of_le (w.lt b hb) hs⟩
theorem LD.ok (W : LD C h d σ l L) : σ.Ok := let ⟨_, _, _, w⟩ := W; w.disk.ok

/-- The disk goes on. -/
theorem LdX.go (W : LdX C D h d σ l L p c) (x : Same D h hs) (E : DiskAt dI hs (GrowB D h hs) d σ') : LdX (GrowB C h hs) (GrowB D h hs) hs d σ' l L p c ∧ Kp C h (GrowB C h hs) hs := by
  have n : ∀ {b}, b < h.size → ¬ D b → ¬ GrowB D h hs b := fun hb hn hg => by rcases hg with hg | hg; exact hn hg; omega
  refine ⟨⟨E, fun b hb => hb.imp (W.sub b) id, (x.old l (W.lt l W.cl) W.dl).trans W.cell, .inl W.cl, n (W.lt l W.cl) W.dl, W.row.keep fun b hb => x.old b (W.row.lt hb).2 (W.own b hb).2, fun b hb => ⟨.inl (W.own b hb).1, n (W.row.lt hb).2 (W.own b hb).2⟩, GrowB.lt W.lt x.size⟩, ?_⟩
  exact Kp.grow (x.more fun b hb _ => W.sub b hb)
theorem LdX.goS (W : LdX C D h d σ l L p c) (x : Same D h hs) (E : DiskAt dI hs D d σ') : LdX C D hs d σ' l L p c ∧ Kp C h C hs :=
  ⟨⟨E, W.sub, (x.old l (W.lt l W.cl) W.dl).trans W.cell, W.cl, W.dl, W.row.keep fun b hb => x.old b (W.row.lt hb).2 (W.own b hb).2, W.own, fun b hb => Nat.lt_of_lt_of_le (W.lt b hb) x.size⟩, Kp.same (x.more fun b hb _ => W.sub b hb)⟩

theorem LdX.ne (W : LdX C D h d σ l L p c) {b : Nat} (hb : (Value.slice p L.opn.length c).ownBlock = some b) : b ≠ l := by
  rintro rfl
  obtain ⟨cur, hc⟩ := W.row.blk hb
  rw [W.cell] at hc
  cases hc

/-- One of the log's own cells is set. -/
theorem LdX.set (W : LdX C D h d σ l L p c) {L' : Lg} {k : Nat} {v : Value} (hc : (logV d L p c).set k v = logV d L' p c) (ho : L'.opn = L.opn) : LdX C D (setsH h l k [v]) d σ l L' p c ∧ Kp C h C (setsH h l k [v]) := by
  have k' : ∀ b, b ≠ l → (setsH h l k [v])[b]? = h[b]? := fun b hb => setsH_ne hb
  refine ⟨⟨W.disk.keep (Nat.le_of_eq setsH_size.symm) fun b hb => k' b fun e => W.dl (e ▸ hb), W.sub, ?_, W.cl, W.dl, ?_, ?_, fun b hb => by rw [setsH_size]; exact W.lt b hb⟩, Kp.same (setsH_same W.cl)⟩
  · rw [setsH_at W.cell]
    simp only [layC, List.setIfInBounds_toArray, hc]
  · rw [ho]; exact W.row.keep fun b hb => k' b (W.ne hb)
  · rw [ho]; exact W.own

/-- The log's row is another one. -/
theorem LdX.setRow (W : LdX C D h d σ l L p c) {h1 : Hp} {s : List UInt8} {p' : Option Addr} {c' : Nat} (g : Grown h h1 (Value.slice p L.opn.length c).ownBlock) (o : Own h1 0 5 1 (.slice p' s.length c') s.length (byteVs s))
    (hb : (Value.slice p' s.length c').ownBlock = (Value.slice p L.opn.length c).ownBlock ∨ ∃ b, (Value.slice p' s.length c').ownBlock = some b ∧ h.size ≤ b) :
    LdX (GrowB C h h1) D (setsH h1 l 5 [.slice p' s.length c']) d σ l { L with opn := s } p' c' ∧ Kp C h (GrowB C h h1) (setsH h1 l 5 [.slice p' s.length c']) := by
  have kb : ∀ b, b < h.size → ((Value.slice p L.opn.length c).ownBlock ≠ some b) → b ≠ l → (setsH h1 l 5 [.slice p' s.length c'])[b]? = h[b]? := fun b hb hn hl => (setsH_ne hl).trans (g.block b hb fun e => hn e.symm)
  have cl1 : h1[l]? = some (.cells (logV d L p c).toArray 86) := (g.block l (W.lt l W.cl) fun e => W.ne e.symm rfl).trans W.cell
  have ne' : ∀ b, (Value.slice p' s.length c').ownBlock = some b → b ≠ l := by
    rintro b hb rfl
    obtain ⟨cur, hc⟩ := o.blk hb
    rw [cl1] at hc
    cases hc
  have sz : (setsH h1 l 5 [.slice p' s.length c']).size = h1.size := setsH_size
  refine ⟨⟨W.disk.keep (by rw [sz]; exact g.size) fun b hb => kb b (W.lt b (W.sub b hb)) (fun e => (W.own b e).2 hb) fun e => W.dl (e ▸ hb), fun b hb => .inl (W.sub b hb), ?_, .inl W.cl, W.dl, o.keep fun b hb => setsH_ne (ne' b hb), ?_, ?_⟩, ?_⟩
  · rw [setsH_at cl1]; rfl
  · intro b hb'
    have hl := (o.lt hb').2
    rcases hb with e | ⟨b', e, hl'⟩
    · rw [e] at hb'
      have := W.own b hb'
      exact ⟨.inl this.1, this.2⟩
    · rw [e] at hb'; cases hb'
      exact ⟨.inr ⟨hl', hl⟩, fun hd => by have := W.lt _ (W.sub _ hd); omega⟩
  · intro b hb
    rw [sz]
    exact GrowB.lt W.lt g.size b hb
  · refine ⟨by rw [sz]; exact g.size, fun b hb hn => ⟨?_, ?_⟩⟩
    · rintro (hc | hc)
      · exact hn hc
      · omega
    · exact kb b hb (fun e => hn (W.own b e).1) fun e => hn (e ▸ W.cl)

theorem LdX.at (W : LdX C D h d σ l L p c) {k : Nat} {v : Value} (hv : (logV d L p c)[k]? = some v) : cellsAt h l (0 + k) [v] := by
  refine cellsAt_one (cellH_at W.cell |>.trans ?_)
  rw [Nat.zero_add, ← hv]; simp
theorem LdX.wr (W : LdX C D h d σ l L p c) {k : Nat} (hk : k < 7) : wrAt h l (0 + k) 1 := wrAt_of W.cell (by show 0 + k + 1 ≤ 7; omega) (.inr (.inr (Nat.le_refl _)))
theorem LdX.seg (W : LdX C D h d σ l L p c) : Seg h p L.opn.length (byteVs L.opn) := W.row.seg
theorem LdX.halves (W : LdX C D h d σ l L p c) (hC : ¬ C 2) : ¬ D 2 := fun h => hC (W.sub _ h)

/-- wal.Log.room -/
theorem room_c (W : LD C h d σ l L) (ok : L.Ok) : CallsH Tryd.prog 38 #[vP l] h fun e h' => h' = h ∧ e = .returned (vZ L.roomZ) := by
  obtain ⟨D, p, c, W⟩ := W
  have := ok.op
  refine V38 _ h _ ⟨l, 0, rfl, _, W.at rfl, l, 0, rfl, _, W.at rfl, fun hc => ⟨rfl, ?_⟩, fun hc => ⟨l, 0, rfl, _, _, _, W.at rfl, _, wrapI64 (by omega) (by omega), rfl, ?_⟩⟩
  · have hc : (L.i : Int) = L.count := of_decide_eq_true hc
    unfold Lg.roomZ; rw [if_pos (by omega)]
  · have hc : ¬ (L.i : Int) = L.count := of_decide_eq_false hc
    unfold Lg.roomZ; rw [if_neg (by omega)]

/-- wal.kind -/
theorem kind_c (b e : Bool) (h : Hp) : CallsH Tryd.prog 39 #[.bool b, .bool e] h fun r h' => h' = h ∧ r = .returned (.int .u8 (kindB b e : Int)) := by
  refine V39 _ _ h _ ⟨b && e, ?_, ?_⟩
  · cases b <;> simp
  · cases b <;> cases e <;> simp [kindB]

/-- wal.Log.Free -/
theorem free_c (W : LD C h d σ l L) (ok : L.Ok) : CallsH Tryd.prog 17 #[vP l] h fun e h' => h' = h ∧ e = .returned (vI L.free) := by
  have W0 := W
  obtain ⟨D, p, c, W⟩ := W
  have o1 := ok.op
  have o2 := ok.le
  have o3 := ok.fit
  refine V17 _ h _ ⟨fun _ hq => hq = h ∧ L.dead = false ∧ L.i ≠ L.count, ⟨decide (L.dead = true ∨ L.i = L.count), ⟨false, eqv_ptr uPL _, fun hf => (by cases hf), fun _ => ⟨l, 0, rfl, _, W.at rfl, fun hd => ⟨rfl, by simp [hd]⟩, fun hd => ⟨l, 0, rfl, _, W.at rfl, l, 0, rfl, _, W.at rfl, rfl, by simp [hd]; omega⟩⟩⟩, fun hB => ⟨rfl, ?_⟩, fun hB => ?_⟩, ?_⟩
  · have hB := of_decide_eq_true hB
    unfold Lg.free; rw [if_pos hB]; rfl
  · have hB := of_decide_eq_false hB
    refine ⟨rfl, ?_, fun e => hB (.inr e)⟩
    cases hd : L.dead with
    | false => rfl
    | true => exact (hB (.inl hd)).elim
  · rintro hq ⟨rfl, hd, hne⟩
    refine ⟨fun h' => h' = hq, rfl, (room_c W0 ok).mono ?_⟩
    rintro e h' ⟨rfl, rfl⟩
    have hr : L.roomZ = 491 - L.opn.length := by unfold Lg.roomZ; rw [if_neg hne]
    rw [hr]
    refine ⟨_, rfl, rfl, _, wrapI64 (by omega) (by omega), l, 0, rfl, _, fun h'' e => by rw [e]; exact W.at rfl, l, 0, rfl, _, fun h'' e => by rw [e]; exact W.at rfl, _, wrapI64 (by omega) (by omega), _, wrapI64 (by omega) (by omega), _, wrapI64 (by omega) (by omega), _, wrapI64 (by omega) (by omega), rfl, ?_⟩
    have : (min (max ((491 : Int) - L.opn.length - 3) 0 + 488 * ((L.count : Int) - L.i - 1)) 65536) = (L.free : Int) := by
      unfold Lg.free Lg.cap
      rw [if_neg (by rintro (e | e); rw [hd] at e; cases e; exact hne e)]
      omega
    rw [this]

theorem free_nil (h : Hp) : CallsH Tryd.prog 17 #[.pointer none] h fun e h' => h' = h ∧ e = .returned (vI 0) :=
  V17 _ h _ ⟨fun _ _ => False, ⟨true, ⟨true, eqv_nil uPL, fun _ => ⟨rfl, rfl⟩, fun hf => (by cases hf)⟩, fun _ => ⟨rfl, rfl⟩, fun hf => (by cases hf)⟩, fun _ hf => hf.elim⟩

/-- wal.Log.At -/
theorem at_c (W : LD C h d σ l L) : CallsH Tryd.prog 13 #[vP l] h fun e h' => h' = h ∧ e = .returned (.tuple #[vI L.i, vI L.opn.length]) := by
  obtain ⟨D, p, c, W⟩ := W
  exact V13 _ h _ ⟨false, eqv_ptr uPL _, fun hf => (by cases hf), fun _ => ⟨l, 0, rfl, _, W.at rfl, l, 0, rfl, _, _, _, W.at rfl, rfl, rfl⟩⟩
theorem at_nil (h : Hp) : CallsH Tryd.prog 13 #[.pointer none] h fun e h' => h' = h ∧ e = .returned (.tuple #[vI 0, vI 0]) :=
  V13 _ h _ ⟨true, eqv_nil uPL, fun _ => ⟨rfl, rfl⟩, fun hf => (by cases hf)⟩

theorem Own.none0 {base : Nat} {e : TypeId} {p : Option Addr} {n c : Nat} {xs : List Value} (o : Own h base e 1 (.slice p n c) n xs) : Own h base e 1 (.slice (cutP p c 0 1) 0 c) 0 [] ∧ (Value.slice (cutP p c 0 1) 0 c).ownBlock = (Value.slice p n c).ownBlock := by
  have hz : cutP p c 0 1 = p := by
    unfold cutP
    split
    · rfl
    · cases p <;> rfl
  rw [hz]
  refine ⟨⟨rfl, ?_⟩, ?_⟩
  · rcases o.2 with ⟨hv, h0⟩ | ⟨g, cap, cur, hv, hb, hg, hnc, hcm, hcs, ht⟩
    · cases hv; exact .inl ⟨rfl, rfl⟩
    · cases hv; exact .inr ⟨g, _, cur, rfl, hb, hg, Nat.zero_le _, hcm, hcs, by simp⟩
  · cases p <;> rfl

/-- wal.Log.write -/
theorem lwrite_c (W : LD C h d σ l L) (ok : L.Ok) (hh : Halves h) (h0 : ¬ C 2) (hl : σ.pend.length ≤ 8796093022208) :
    CallsH Tryd.prog 40 #[vP l] h fun e hs => ∃ C', LD C' hs d (writeL σ L).1 l (writeL σ L).2.1 ∧ Kp C h C' hs ∧ e = .returned (vZ (writeL σ L).2.2) := by
  obtain ⟨D, p, c, W⟩ := W
  have o1 := ok.op
  have o2 := ok.le
  have o3 := ok.fit
  have o4 := ok.ep
  have ca : ∀ {hq : Hp} {k : Nat} {v : Value}, hq[l]? = some (.cells (logV d L p c).toArray 86) → (logV d L p c)[k]? = some v → cellsAt hq l (0 + k) [v] := fun c hv => by
    refine cellsAt_one (cellH_at c |>.trans ?_)
    rw [Nat.zero_add, ← hv]; simp
  refine V40 _ h _ ⟨fun h' => h'[l]? = some (.cells (logV d L p c).toArray 86), W.cell, l, 0, rfl, _, fun _ c => ca c rfl, l, 0, rfl, _, fun _ c => ca c rfl, l, 0, rfl, _, fun _ c => ca c rfl, ((L.first + L.i : Nat) : Int), by rw [wrapI64] <;> omega, l, 0, rfl, _, fun _ c => ca c rfl, l, 0, rfl, _, fun _ c => ca c rfl, l, 0, rfl, _, _, _, W.at rfl, ?_⟩
  refine semH_toText (t := tx L.opn) uBs uB uStr (by show Seg h p L.opn.length (byteVs (bl (tx L.opn))); rw [bl_tx]; exact W.seg) ?_
  have okF : L.frm.Ok := ⟨by show (-9223372036854775808 : Int) ≤ 3; decide, by show (3 : Int) ≤ _; decide, o4, by show _ ≤ (L.i : Int); omega, by show (L.i : Int) ≤ _; omega, by show (tx L.opn).size ≤ _; rw [tx_size]; omega⟩
  refine ⟨_, rfl, W.cell, (put_c W.disk hh (W.halves h0) ((L.first + L.i : Nat) : Int) L.frm okF hl).mono ?_⟩
  rintro e h1 ⟨y1, D1, rfl⟩
  obtain ⟨W1, K1⟩ := W.go y1 D1
  refine ⟨_, rfl, W1.cell, fun hc => ?_, fun hc => ?_⟩
  · have hc : (putF σ ((L.first + L.i : Nat) : Int) L.frm).2 ≠ 0 := of_decide_eq_true hc
    refine ⟨l, 0, rfl, rfl, W1.wr (by decide), ?_⟩
    rintro h2 rfl
    obtain ⟨W2, K2⟩ := W1.set (L' := { L with dead := true }) (k := 0 + 6) (v := .bool true) rfl rfl
    have e1 : writeL σ L = ((putF σ ((L.first + L.i : Nat) : Int) L.frm).1, { L with dead := true }, (putF σ ((L.first + L.i : Nat) : Int) L.frm).2) := by unfold writeL; rw [if_pos hc]
    rw [e1]
    exact ⟨_, ⟨_, _, _, W2⟩, K1.trans K2, rfl⟩
  · have hc : ¬ (putF σ ((L.first + L.i : Nat) : Int) L.frm).2 ≠ 0 := of_decide_eq_false hc
    have e1 : writeL σ L = ((putF σ ((L.first + L.i : Nat) : Int) L.frm).1, { L with i := L.i + 1, opn := [] }, 0) := by unfold writeL; rw [if_neg hc]
    rw [e1]
    refine ⟨l, 0, rfl, _, W1.at rfl, _, incI (by omega), l, 0, rfl, rfl, W1.wr (by decide), ?_⟩
    rintro h2 rfl
    obtain ⟨W2, K2⟩ := W1.set (L' := { L with i := L.i + 1 }) (k := 0 + 4) (v := vI (L.i + 1)) rfl rfl
    refine ⟨l, 0, rfl, p, L.opn.length, c, W2.at rfl, 0, rfl, Nat.le_refl _, Nat.zero_le _, _, rfl, l, 0, rfl, rfl, W2.wr (by decide), ?_⟩
    rintro h3 rfl
    obtain ⟨o0, ob⟩ := W2.row.none0
    obtain ⟨W3, K3⟩ := W2.setRow (s := []) (p' := cutP p c 0 1) (c' := c) ⟨Nat.le_refl _, fun _ _ _ => rfl⟩ o0 (.inl ob)
    exact ⟨_, ⟨_, _, _, W3⟩, (K1.trans K2).trans K3, rfl⟩

theorem writeL_ok (ok : L.Ok) (hi : L.i < L.count) : (writeL σ L).2.1.Ok := by
  unfold writeL
  split
  · exact ⟨ok.pos, ok.fit, ok.ep, ok.le, ok.op⟩
  · exact ⟨ok.pos, ok.fit, ok.ep, hi, by show 0 ≤ _; omega⟩

/-- wal.Log.Sync -/
theorem lsync_c (W : LD C h d σ l L) (ok : L.Ok) (hh : Halves h) (h0 : ¬ C 2) (hl : σ.pend.length ≤ 8796093022208) :
    CallsH Tryd.prog 12 #[vP l] h fun e hs => ∃ C', LD C' hs d (syncL σ L).1 l (syncL σ L).2.1 ∧ Kp C h C' hs ∧ e = .returned (vZ (syncL σ L).2.2) := by
  have W0 := W
  obtain ⟨D, p, c, W⟩ := W
  refine V12 _ h _ ⟨false, eqv_ptr uPL _, fun hf => (by cases hf), fun _ => ⟨l, 0, rfl, _, W.at rfl, fun hd => ?_, fun hd => ?_⟩⟩
  · have e1 : syncL σ L = (σ, L, 191) := by unfold syncL; rw [if_pos hd]
    rw [e1]
    exact ⟨C, W0, Kp.refl _ _, rfl⟩
  have hdn : ¬ L.dead = true := by rw [hd]; decide
  refine ⟨fun _ hq => ∃ C' τ M, LD C' hq d τ l M ∧ Kp C h C' hq ∧ syncL σ L = endS τ.flush M, ⟨l, 0, rfl, _, _, _, W.at rfl, fun hc => ?_, fun hc => ?_⟩, ?_⟩
  · have hc : (0 : Int) < (L.opn.length : Int) := of_decide_eq_true hc
    have hne : ¬ L.opn = [] := by intro e; rw [e] at hc; simp at hc
    refine (lwrite_c W0 ok hh h0 hl).mono ?_
    rintro e h1 ⟨C1, W1, K1, rfl⟩
    refine ⟨_, rfl, fun hw => ?_, fun hw => ?_⟩
    · have hw : (writeL σ L).2.2 ≠ 0 := of_decide_eq_true hw
      have e1 : syncL σ L = writeL σ L := by unfold syncL; rw [if_neg hdn, if_neg hne, if_pos hw]
      rw [e1]; exact ⟨C1, W1, K1, rfl⟩
    · have hw : ¬ (writeL σ L).2.2 ≠ 0 := of_decide_eq_false hw
      exact ⟨C1, _, _, W1, K1, by unfold syncL; rw [if_neg hdn, if_neg hne, if_neg hw]⟩
  · have hc : ¬ (0 : Int) < (L.opn.length : Int) := of_decide_eq_false hc
    have he : L.opn = [] := List.eq_nil_of_length_eq_zero (by omega)
    exact ⟨C, _, _, W0, Kp.refl _ _, by unfold syncL; rw [if_neg hdn, if_pos he]⟩
  · rintro h1 ⟨C1, τ, M, ⟨D1, p1, c1, W1⟩, K1, e1⟩
    refine ⟨l, 0, rfl, _, W1.at rfl, (flush_c W1.disk).mono ?_⟩
    rintro e h2 ⟨y2, _, D2, rfl⟩
    obtain ⟨W2, K2⟩ := W1.goS y2 D2
    refine ⟨_, rfl, l, 0, rfl, rfl, W2.wr (by decide), ?_⟩
    rintro h3 rfl
    obtain ⟨W3, K3⟩ := W2.set (L' := { M with dead := decide (τ.flush.2 ≠ 0) }) (k := 0 + 6) (v := .bool (decide (τ.flush.2 ≠ 0))) rfl rfl
    rw [e1]
    exact ⟨C1, ⟨_, _, _, W3⟩, (K1.trans K2).trans K3, rfl⟩

theorem lsync_nil (h : Hp) : CallsH Tryd.prog 12 #[.pointer none] h fun e h' => h' = h ∧ e = .returned (vZ 1) :=
  V12 _ h _ ⟨true, eqv_nil uPL, fun _ => ⟨rfl, rfl⟩, fun hf => (by cases hf)⟩

/-- wal.right -/
theorem wright_c {B : Nat → Prop} (W : DiskAt dI h B d σ) (first count : Int) (h1 : first ≤ 9223372036854775807) : CallsH Tryd.prog 42 #[vP d, vZ first, vZ count] h fun e h' => h' = h ∧ e = .returned (.bool (regionB σ.safe.length first count)) := by
  have hm := W.ok.most
  have r : ∀ b : Bool, (b = true ↔ (0 ≤ first ∧ 1 ≤ count ∧ first < σ.safe.length ∧ count ≤ σ.safe.length - first)) → regionB σ.safe.length first count = b := fun b hb => by
    unfold regionB
    cases b with
    | true => exact decide_eq_true (hb.1 rfl)
    | false => exact decide_eq_false fun h => by have := hb.2 h; cases this
  refine V42 _ _ _ h _ ⟨false, eqv_ptr uPD _, fun _ => ⟨fun hf => ⟨fun hc => ?_, fun hc => ⟨rfl, ?_⟩⟩, fun hf => ⟨rfl, ?_⟩⟩, fun hf => (by cases hf)⟩
  · have hf := of_decide_eq_true hf
    have hc := of_decide_eq_true hc
    refine (size_c W).mono ?_
    rintro e h' ⟨rfl, rfl⟩
    refine ⟨_, rfl, fun hs => ?_, fun hs => ⟨rfl, ?_⟩⟩
    · have hs := of_decide_eq_true hs
      refine (size_c W).mono ?_
      rintro e h'' ⟨rfl, rfl⟩
      refine ⟨_, rfl, _, wrapI64 (by omega) (by omega), rfl, ?_⟩
      rw [r _ ⟨fun h => ⟨hf, hc, hs, of_decide_eq_true h⟩, fun h => decide_eq_true h.2.2.2⟩]
    · have hs := of_decide_eq_false hs
      rw [r false ⟨fun h => (by cases h), fun h => absurd h.2.2.1 hs⟩]
  · have hc := of_decide_eq_false hc
    rw [r false ⟨fun h => (by cases h), fun h => absurd h.2.1 hc⟩]
  · have hf := of_decide_eq_false hf
    rw [r false ⟨fun h => (by cases h), fun h => absurd h.1 hf⟩]
theorem wright_nil (first count : Int) (h : Hp) : CallsH Tryd.prog 42 #[.pointer none, vZ first, vZ count] h fun e h' => h' = h ∧ e = .returned (.bool false) :=
  V42 _ _ _ h _ ⟨true, eqv_nil uPD, fun hf => (by cases hf), fun _ => ⟨rfl, rfl⟩⟩

/-- wal.New -/
theorem wnew_c {B : Nat → Prop} (W : DiskAt dI h B d σ) (first count : Int) (e : Nat) (h1 : first ≤ 9223372036854775807) : CallsH Tryd.prog 14 #[vP d, vZ first, vZ count, vU e] h fun r h' =>
    ((regionB σ.safe.length first count && epochB e) = false ∧ h' = h ∧ r = .returned (.tuple #[.pointer none, vZ 1])) ∨
    ((regionB σ.safe.length first count && epochB e) = true ∧ Ext h h' ∧ LD (fun b => B b ∨ b = h.size) h' d σ h.size (newL first count e) ∧ (newL first count e).Ok ∧ r = .returned (.tuple #[vP h.size, vZ 0])) := by
  have hm := W.ok.most
  refine V14 _ _ _ _ h _ ⟨fun _ hq => hq = h ∧ regionB σ.safe.length first count = true ∧ epochB e = true, ?_, ?_⟩
  · refine (wright_c W first count h1).mono ?_
    rintro r h' ⟨rfl, rfl⟩
    refine ⟨_, rfl, fun hr => .inl ⟨?_, rfl, rfl⟩, fun hr => ⟨fun h1 => .inl ⟨?_, rfl, rfl⟩, fun h1 => ⟨fun h2 => .inl ⟨?_, rfl, rfl⟩, fun h2 => ⟨rfl, ?_, ?_⟩⟩⟩⟩
    · rw [show regionB σ.safe.length first count = false by simpa using hr]; rfl
    · have h1 := of_decide_eq_true h1
      rw [show epochB e = false from decide_eq_false (by omega)]; simp
    · have h2 := of_decide_eq_true h2
      rw [show epochB e = false from decide_eq_false (by omega)]; simp
    · simpa using hr
    · have h1 := of_decide_eq_false h1
      have h2 := of_decide_eq_false h2
      exact decide_eq_true (by omega)
  · rintro hq ⟨rfl, hr, he⟩ b h2 rfl rfl
    have hrr : 0 ≤ first ∧ 1 ≤ count ∧ first < σ.safe.length ∧ count ≤ σ.safe.length - first := of_decide_eq_true hr
    have hee : 1 ≤ e ∧ e ≤ 9223372036854775807 := of_decide_eq_true he
    have x := Ext.push hq (.cells #[.pointer (some ⟨d, 0, none⟩), vZ first, vZ count, .int .u64 (e : Int), vZ 0, .slice none 0 0, .bool false] 86)
    have hlt := W.lt
    refine .inr ⟨by rw [hr, he]; rfl, x, ⟨B, none, 0, W.ext x, fun b hb => .inl hb, ?_, .inr rfl, fun hb => by have := hlt _ hb; omega, Own.nil _ _ _ _, fun b hb => (by cases hb), ?_⟩, ⟨by show 1 ≤ count.toNat; omega, by show first.toNat + count.toNat ≤ 4096; omega, by show e < _; omega, Nat.zero_le _, Nat.zero_le _⟩, rfl⟩
    · rw [push_last]
      show _ = some (Obj.cells #[vP d, vI first.toNat, vI count.toNat, vU e, vI 0, .slice none 0 0, .bool false] 86)
      have e1 : vI first.toNat = vZ first := congrArg (Value.int .i64) (by omega)
      have e2 : vI count.toNat = vZ count := congrArg (Value.int .i64) (by omega)
      rw [e1, e2]
      rfl
    · rintro b (hb | rfl)
      · exact Nat.lt_of_lt_of_le (hlt b hb) x.size
      · simp
theorem wnew_nil (first count : Int) (e : Nat) (h : Hp) : CallsH Tryd.prog 14 #[.pointer none, vZ first, vZ count, vU e] h fun r h' => h' = h ∧ r = .returned (.tuple #[.pointer none, vZ 1]) := by
  refine V14 _ _ _ _ h _ ⟨fun _ _ => False, ?_, fun _ hf => hf.elim⟩
  refine (wright_nil first count h).mono ?_
  rintro r h' ⟨rfl, rfl⟩
  exact ⟨_, rfl, fun _ => ⟨rfl, rfl⟩, fun hf => (by cases hf)⟩

end
end Go.Vc

/- The log: Append. -/
namespace Go.Vc
open Go Go.Proofs Go.MapKept

/-! ## How much waits -/

theorem write_more {σ : DS} {n : Int} {s : ByteArray} : (σ.write n s).1.pend.length ≤ σ.pend.length + 1 := by
  have hst := (DS.stepped_safe σ).2.1
  unfold DS.write
  split
  · split
    · split
      · rw [hst]; omega
      · show (σ.pend ++ [(n.toNat, s)]).length ≤ _
        simp
    · show σ.pend.length ≤ _; omega
  · show σ.pend.length ≤ _; omega

theorem put_more {σ : DS} {n : Int} {f : Frm} : (putF σ n f).1.pend.length ≤ σ.pend.length + 1 := by
  unfold putF
  split
  · show σ.pend.length ≤ _; omega
  · split
    · show (σ.read n).1.pend.length ≤ _; rw [read_pend]; omega
    · have := write_more (σ := (σ.read n).1) (n := n) (s := tx (sealL f (UInt8.ofNat (markN (σ.read n).2.1))))
      rwa [read_pend] at this

theorem flush_more {σ : DS} : σ.flush.1.pend.length ≤ σ.pend.length := by
  have hst := (DS.stepped_safe σ).2.1
  unfold DS.flush
  split
  · exact Nat.le_refl _
  · split
    · show σ.stepped.pend.length ≤ _; rw [hst]; omega
    · exact Nat.zero_le _

theorem writeL_more {σ : DS} {L : Lg} : (writeL σ L).1.pend.length ≤ σ.pend.length + 1 := by
  unfold writeL
  split
  · exact put_more
  · exact put_more

theorem syncL_more {σ : DS} {L : Lg} : (syncL σ L).1.pend.length ≤ σ.pend.length + 1 := by
  have h1 := @writeL_more σ L
  unfold syncL
  split
  · show σ.pend.length ≤ _; omega
  · split
    · show σ.flush.1.pend.length ≤ _; have := @flush_more σ; omega
    · split
      · exact h1
      · show (writeL σ L).1.flush.1.pend.length ≤ _; have := @flush_more (writeL σ L).1; omega

theorem appR_more : ∀ (k : Nat) (b : Bool) (r : List UInt8) (σ : DS) (L : Lg), (appR k b r σ L).1.pend.length ≤ σ.pend.length + k := by
  intro k
  induction k with
  | zero => intro b r σ L; exact Nat.le_refl _
  | succ k ih =>
    intro b r σ L
    rw [appR]
    split
    · show σ.pend.length ≤ _; omega
    · split
      · have h1 := @writeL_more σ (putL b r L)
        split
        · omega
        · have := ih false (r.drop (stepN L r)) (writeL σ (putL b r L)).1 (writeL σ (putL b r L)).2.1
          omega
      · have := ih false (r.drop (stepN L r)) σ (putL b r L)
        omega

/-! ## What a log may be between calls -/

structure Lg.Rdy (L : Lg) : Prop where
  ok : L.Ok
  op : L.dead = false → L.opn.length < 488 ∧ (L.i = L.count → L.opn = [])

theorem newL_rdy {first count : Int} {e : Nat} (ok : (newL first count e).Ok) : (newL first count e).Rdy := ⟨ok, fun _ => ⟨by show 0 < 488; decide, fun _ => rfl⟩⟩

/-- Before a piece. -/
structure Lg.Go (L : Lg) (r : List UInt8) : Prop where
  ok : L.Ok
  live : L.dead = false
  op : L.opn.length < 488
  full : L.i = L.count → L.opn = []
  lt : r ≠ [] → L.i < L.count ∧ r.length ≤ L.cap

section
variable {L : Lg} {r : List UInt8} {b : Bool} {σ : DS}

theorem stepN_pos (op : L.opn.length < 488) (hr : r ≠ []) : 0 < stepN L r := by
  have := List.length_pos_iff.2 hr
  unfold stepN; omega
theorem stepN_le : stepN L r ≤ r.length := Nat.min_le_left _ _
theorem pieceB_length (k : Nat) (s : List UInt8) : (pieceB k s).length = s.length + 3 := rfl
theorem putL_length : (putL b r L).opn.length = L.opn.length + stepN L r + 3 := by
  show (L.opn ++ pieceB _ _).length = _
  rw [List.length_append, pieceB_length, List.length_take]
  have := @stepN_le L r
  omega
theorem putL_ok (ok : L.Ok) (op : L.opn.length < 488) : (putL b r L).Ok :=
  ⟨ok.pos, ok.fit, ok.ep, ok.le, by rw [putL_length]; unfold stepN; omega⟩
theorem writeL_code {M : Lg} (h : ¬ (writeL σ M).2.2 ≠ 0) : (writeL σ M).2.1 = { M with i := M.i + 1, opn := [] } := by
  unfold writeL at h ⊢
  split at h
  · rename_i h1; exact (h h1).elim
  · rename_i h1; rw [if_neg h1]
theorem writeL_dead {M : Lg} (h : (writeL σ M).2.2 ≠ 0) : (writeL σ M).2.1 = { M with dead := true } := by
  unfold writeL at h ⊢
  split at h
  · rename_i h1; rw [if_pos h1]
  · exact (h rfl).elim

/-- A piece that does not fill the sector is the last one. -/
theorem Lg.Go.rest (g : L.Go r) (hr : r ≠ []) (h : ¬ 488 ≤ (putL b r L).opn.length) : (putL b r L).Go (r.drop (stepN L r)) := by
  have hs := @stepN_le L r
  have e := @putL_length L r b
  have h2 : stepN L r = r.length := by unfold stepN at e ⊢; omega
  have hd : r.drop (stepN L r) = [] := by rw [h2]; simp
  refine ⟨putL_ok g.ok g.op, g.live, by omega, fun hi => ?_, fun hn => (hn hd).elim⟩
  have hi : L.i = L.count := hi
  have := (g.lt hr).1
  omega

theorem Lg.Go.next (g : L.Go r) (hr : r ≠ []) (h : ¬ (writeL σ (putL b r L)).2.2 ≠ 0) : ((writeL σ (putL b r L)).2.1).Go (r.drop (stepN L r)) := by
  rw [writeL_code h]
  obtain ⟨h1, h2⟩ := g.lt hr
  refine ⟨⟨g.ok.pos, g.ok.fit, g.ok.ep, h1, Nat.zero_le _⟩, g.live, by show 0 < 488; decide, fun _ => rfl, fun hn => ?_⟩
  have hl : 0 < (r.drop (stepN L r)).length := List.length_pos_iff.2 hn
  rw [List.length_drop] at hl
  show L.i + 1 < L.count ∧ (r.drop (stepN L r)).length ≤ (488 - 0) + 488 * (L.count - (L.i + 1) - 1)
  rw [List.length_drop]
  unfold Lg.cap at h2
  unfold stepN at hl ⊢
  omega

theorem appR_rdy : ∀ (k : Nat) (b : Bool) (r : List UInt8) (σ : DS) (L : Lg), L.Go r → (appR k b r σ L).2.1.Rdy := by
  intro k
  induction k with
  | zero => intro b r σ L g; exact ⟨g.ok, fun _ => ⟨g.op, g.full⟩⟩
  | succ k ih =>
    intro b r σ L g
    rw [appR]
    split
    · exact ⟨g.ok, fun _ => ⟨g.op, g.full⟩⟩
    · rename_i hr
      split
      · split
        · rename_i h1
          rw [writeL_dead h1]
          have o := putL_ok (b := b) (r := r) g.ok g.op
          exact ⟨⟨o.pos, o.fit, o.ep, o.le, o.op⟩, fun h => (by cases h)⟩
        · rename_i h1
          exact ih _ _ _ _ (g.next hr h1)
      · rename_i h1
        exact ih _ _ _ _ (g.rest hr h1)

theorem Lg.Rdy.go (ok : L.Rdy) (hd : L.dead = false) (hf : r.length ≤ L.free) (hr : r ≠ []) : L.Go r := by
  obtain ⟨h1, h2⟩ := ok.op hd
  have hl := List.length_pos_iff.2 hr
  have o := ok.ok.le
  unfold Lg.free at hf
  split at hf
  · omega
  · rename_i hn
    have hne : ¬ L.i = L.count := fun e => hn (.inr e)
    exact ⟨ok.ok, hd, h1, h2, fun _ => ⟨by omega, by omega⟩⟩

theorem appL_rdy {s : ByteArray} (ok : L.Rdy) : (appL σ L s).2.1.Rdy := by
  unfold appL
  split
  · exact ok
  · rename_i hd
    split
    · exact ok
    · rename_i hs
      split
      · exact ok
      · split
        · exact ok
        · rename_i hf
          exact appR_rdy _ _ _ _ _ (ok.go (by simpa using hd) (by rw [bl_length]; omega) fun e => hs (bl_inj e))

theorem syncL_rdy (ok : L.Rdy) : (syncL σ L).2.1.Rdy := by
  unfold syncL
  split
  · exact ok
  · rename_i hd
    have hd : L.dead = false := by simpa using hd
    obtain ⟨h1, h2⟩ := ok.op hd
    split
    · rename_i he
      exact ⟨⟨ok.ok.pos, ok.ok.fit, ok.ok.ep, ok.ok.le, ok.ok.op⟩, fun _ => ⟨h1, h2⟩⟩
    · rename_i he
      have hi : L.i < L.count := by
        have := ok.ok.le
        have : L.i ≠ L.count := fun e => he (h2 e)
        omega
      split
      · rename_i hw
        rw [writeL_dead hw]
        exact ⟨⟨ok.ok.pos, ok.ok.fit, ok.ok.ep, ok.ok.le, ok.ok.op⟩, fun h => (by cases h)⟩
      · rename_i hw
        have o := writeL_ok (σ := σ) ok.ok hi
        rw [writeL_code hw] at o ⊢
        exact ⟨⟨o.pos, o.fit, o.ep, o.le, o.op⟩, fun _ => ⟨by show 0 < 488; decide, fun _ => rfl⟩⟩

end

/-! ## The walk -/

theorem kindB_lt (b e : Bool) : kindB b e < 256 := by cases b <;> cases e <;> decide

theorem byteVs_append (a b : List UInt8) : byteVs (a ++ b) = byteVs a ++ byteVs b := List.map_append

section
variable {C : Nat → Prop} {h hq : Hp} {d l : Nat} {σ τ : DS} {L M : Lg}

set_option maxHeartbeats 1000000 in
/-- wal.Log.Append -/
theorem lappend_c (W : LD C h d σ l L) (ok : L.Rdy) (hh : Halves h) (h0 : ¬ C 2) (r : ByteArray) (hl : σ.pend.length ≤ 8796092000000) :
    CallsH Tryd.prog 11 #[vP l, .string r] h fun e hs => ∃ C', LD C' hs d (appL σ L r).1 l (appL σ L r).2.1 ∧ Kp C h C' hs ∧ e = .returned (vZ (appL σ L r).2.2) := by
  have W0 := W
  obtain ⟨D, p, c, W⟩ := W
  refine V11 _ _ h _ ⟨fun _ hq => hq = h ∧ L.dead = false ∧ r ≠ ⟨#[]⟩ ∧ r.size ≤ 65536 ∧ r.size ≤ L.free, ⟨decide (L.dead = false ∧ r = ⟨#[]⟩), ⟨false, eqv_ptr uPL _, fun hf => (by cases hf), fun _ => ⟨l, 0, rfl, _, W.at rfl, fun hd => ⟨rfl, ?_⟩, fun hd => ⟨rfl, ?_⟩⟩⟩, fun hB => ?_, fun hB => ⟨l, 0, rfl, _, W.at rfl, fun hd => ?_, fun hd => ⟨fun hc => ?_, fun hc => (free_c W0 ok.ok).mono ?_⟩⟩⟩, ?_⟩
  · have hd : L.dead = false := by simpa using hd
    apply decide_eq_decide.2; simp [hd]
  · have hd : L.dead = true := by simpa using hd
    simp [hd]
  · obtain ⟨hd, he⟩ := of_decide_eq_true hB
    have e1 : appL σ L r = (σ, L, 1) := by unfold appL; rw [if_neg (by rw [hd]; decide), if_pos he]
    rw [e1]; exact ⟨C, W0, Kp.refl _ _, rfl⟩
  · have e1 : appL σ L r = (σ, L, 191) := by unfold appL; rw [if_pos hd]
    rw [e1]; exact ⟨C, W0, Kp.refl _ _, rfl⟩
  · have hB := of_decide_eq_false hB
    have hc : (65536 : Int) < r.size := of_decide_eq_true hc
    have e1 : appL σ L r = (σ, L, 2) := by unfold appL; rw [if_neg (by rw [hd]; decide), if_neg (fun e => hB ⟨hd, e⟩), if_pos (by omega)]
    rw [e1]; exact ⟨C, W0, Kp.refl _ _, rfl⟩
  · rintro e h' ⟨rfl, rfl⟩
    have hB := of_decide_eq_false hB
    have hc : ¬ (65536 : Int) < r.size := of_decide_eq_false hc
    refine ⟨_, rfl, fun hf => ?_, fun hf => ?_⟩
    · have hf : (L.free : Int) < r.size := of_decide_eq_true hf
      have e1 : appL σ L r = (σ, L, 190) := by unfold appL; rw [if_neg (by rw [hd]; decide), if_neg (fun e => hB ⟨hd, e⟩), if_neg (by omega), if_pos (by omega)]
      rw [e1]; exact ⟨C, W0, Kp.refl _ _, rfl⟩
    · have hf : ¬ (L.free : Int) < r.size := of_decide_eq_false hf
      exact ⟨rfl, hd, fun e => hB ⟨hd, e⟩, by omega, by omega⟩
  rintro hz ⟨rfl, hd, hne, h65, hfr⟩
  have e0 : appL σ L r = appR r.size true (bl r) σ L := by unfold appL; rw [if_neg (by rw [hd]; decide), if_neg hne, if_neg (by omega), if_neg (by omega)]
  rw [e0]
  have g0 : L.Go (bl r) := ok.go hd (by rw [bl_length]; exact hfr) fun e => hne (bl_inj e)
  refine ⟨fun v hq => ∃ (k : Nat) (s : ByteArray) (b : Bool) (C1 : Nat → Prop) (τ : DS) (M : Lg), v = [.string s, .bool b] ∧ s.size ≤ k ∧ k ≤ 65536 ∧ LD C1 hq d τ l M ∧ Kp C hz C1 hq ∧ M.Go (bl s) ∧ appR r.size true (bl r) σ L = appR k b (bl s) τ M ∧ τ.pend.length + k ≤ σ.pend.length + r.size,
    fun v _ => match v with | .string s :: _ => s.size | _ => 0, ⟨r.size, r, true, C, σ, L, rfl, Nat.le_refl _, h65, W0, Kp.refl _ _, g0, rfl, Nat.le_refl _⟩, ?_⟩
  rintro s b hq ⟨k, s', b', C1, τ, M, hv, hsk, hk, W1, K1, g, hrun, hpl⟩
  cases hv
  refine ⟨fun hs => ?_, fun hs => ?_⟩
  rotate_left
  · have hs : s = ⟨#[]⟩ := by simpa using hs
    have e1 : appR k b (bl s) τ M = (τ, M, 0) := by
      rw [hs]
      cases k with
      | zero => rfl
      | succ k => rw [appR, if_pos rfl]
    rw [hrun, e1]
    exact ⟨C1, W1, K1, rfl⟩
  have hs : s ≠ ⟨#[]⟩ := by simpa using hs
  have hbn : bl s ≠ [] := fun e => hs (bl_inj e)
  have hpos : 0 < s.size := by have := List.length_pos_iff.2 hbn; rwa [bl_length] at this
  obtain ⟨k, rfl⟩ : ∃ j, k = j + 1 := ⟨k - 1, by omega⟩
  obtain ⟨g1, g2⟩ := g.lt hbn
  have g3 := g.op
  have hrz : M.roomZ = 491 - M.opn.length := by unfold Lg.roomZ; rw [if_neg (by omega)]
  have hst : min (s.size : Int) (488 - (M.opn.length : Int)) = (stepN M (bl s) : Int) := by unfold stepN; rw [bl_length]; omega
  have hst' := @stepN_le M (bl s)
  have hsp := stepN_pos g3 hbn
  have hs488 : stepN M (bl s) ≤ 488 := by unfold stepN; omega
  obtain ⟨n, hn⟩ : ∃ n, n = stepN M (bl s) := ⟨_, rfl⟩
  rw [← hn] at hst hst' hsp hs488
  rw [bl_length] at hst'
  refine (room_c W1 g.ok).mono ?_
  rintro e h' ⟨rfl, rfl⟩
  obtain ⟨D1, p1, c1, X1⟩ := W1
  have ca : ∀ {hq : Hp} {k : Nat} {v : Value}, hq[l]? = some (.cells (logV d M p1 c1).toArray 86) → (logV d M p1 c1)[k]? = some v → cellsAt hq l (0 + k) [v] := fun c hv => by
    refine cellsAt_one (cellH_at c |>.trans ?_)
    rw [Nat.zero_add, ← hv]; simp
  rw [hrz]
  refine ⟨_, rfl, _, wrapI64 (by omega) (by omega), fun hq => hq[l]? = some (.cells (logV d M p1 c1).toArray 86), X1.cell, l, 0, rfl, p1, M.opn.length, c1, fun _ c => ca c rfl, ?_⟩
  have hst2 : min (s.size : Int) ((491 : Int) - (M.opn.length : Int) - 3) = (n : Int) := by rw [← hst]; omega
  rw [hst2]
  refine (kind_c b (decide ((n : Int) = (s.size : Int))) h').mono ?_
  rintro e h'' ⟨rfl, rfl⟩
  have hdec : decide ((n : Int) = (s.size : Int)) = decide (stepN M (bl s) = (bl s).length) := by rw [← hn, bl_length]; apply decide_eq_decide.2; omega
  rw [hdec]
  obtain ⟨q, hq0⟩ : ∃ q, q = kindB b (decide (stepN M (bl s) = (bl s).length)) := ⟨_, rfl⟩
  have hql : q < 256 := by rw [hq0]; exact kindB_lt _ _
  rw [← hq0]
  have hsh : shrI .i64 (n : Int) 8 = ((n / 256 : Nat) : Int) := by
    have := shr_nat .i64 n 8 (by decide)
    rw [Nat.shiftRight_eq_div_pow] at this
    exact this
  refine ⟨_, rfl, X1.cell, by decide, _, hsh, _, wrapU8 _, _, wrapU8 _, ?_⟩
  have ev : ([Value.int .u8 (q : Int), .int .u8 (((n / 256 : Nat) : Int) % 256), .int .u8 ((n : Int) % 256)] : List Value) = byteVs [UInt8.ofNat q, UInt8.ofNat (n / 256), UInt8.ofNat n] := by
    show _ = [Value.int .u8 ((UInt8.ofNat q).toNat : Int), .int .u8 ((UInt8.ofNat (n / 256)).toNat : Int), .int .u8 ((UInt8.ofNat n).toNat : Int)]
    rw [u8_nat, u8_nat, u8_nat, Nat.mod_eq_of_lt hql]
    rfl
  have keep : ∀ hq, Grown h'' hq (Value.slice p1 M.opn.length c1).ownBlock → hq[l]? = some (.cells (logV d M p1 c1).toArray 86) := fun hq gr => (gr.block l (X1.lt l X1.cl) fun e => X1.ne e.symm rfl).trans X1.cell
  have sz0 : 0 ≤ Array.size h'' := Nat.zero_le _
  refine semH_pushC rowB X1.row (vs := [.int .u8 (q : Int), .int .u8 (((n / 256 : Nat) : Int) % 256), .int .u8 ((n : Int) % 256)]) (m := 3) rfl rfl (by simp) (by simp) (by simp [Value.oneCell']) (by omega) (by simp only [maxLen]; omega) sz0 (fun hq x => (x.old l (X1.lt l X1.cl)).trans X1.cell) keep fun p2 c2 h2 o2 gr2 _ b2 => ?_
  rw [ev, ← byteVs_append] at o2
  have l2 : (M.opn ++ [UInt8.ofNat q, UInt8.ofNat (n / 256), UInt8.ofNat n]).length = M.opn.length + 3 := by simp
  refine ⟨l, 0, rfl, rfl, wrAt_of (keep h2 gr2) (by show 0 + 5 + 1 ≤ 7; omega) (.inr (.inr (Nat.le_refl _))), ?_⟩
  rintro h3 rfl
  obtain ⟨X3, K3⟩ := X1.setRow (s := M.opn ++ [UInt8.ofNat q, UInt8.ofNat (n / 256), UInt8.ofNat n]) (p' := p2) (c' := c2) gr2 (by rw [l2]; exact o2) (by rw [l2]; exact b2)
  have hsl : Value.slice p2 (M.opn ++ [UInt8.ofNat q, UInt8.ofNat (n / 256), UInt8.ofNat n]).length c2 = Value.slice p2 (M.opn.length + 3) c2 := by rw [l2]
  rw [hsl] at X3 K3
  refine ⟨l, 0, rfl, p2, M.opn.length + 3, c2, ?_, n, rfl, Nat.zero_le _, hst', _, rfl, ?_⟩
  · exact X3.at (k := 5) (by show some (Value.slice p2 (M.opn ++ _).length c2) = _; rw [hsl])
  have o3 : Own (setsH h2 l 5 [.slice p2 (M.opn.length + 3) c2]) 0 5 1 (.slice p2 (M.opn.length + 3) c2) (M.opn.length + 3) (byteVs (M.opn ++ [UInt8.ofNat q, UInt8.ofNat (n / 256), UInt8.ofNat n])) := by
    have := X3.row
    show Own _ 0 _ 1 _ _ _
    rw [show (({ M with opn := M.opn ++ [UInt8.ofNat q, UInt8.ofNat (n / 256), UInt8.ofNat n] } : Lg).opn.length) = M.opn.length + 3 from l2] at this
    exact this
  have hex : (s.extract 0 n).size = n := by rw [ByteArray.size_extract]; omega
  have hbx : (s.extract 0 n).data.toList = (bl s).take n := by
    show bl (s.extract 0 n) = _
    rw [bl_extract]; simp
  refine semH_appendStr rowB uStr zeroB o3 (by rw [hex]; simp only [maxLen]; omega) (by rw [hex]; omega) (Nat.zero_le _) fun p4 c4 h4 o4 gr4 _ b4 => ?_
  rw [hbx, ← byteVs_append] at o4
  rw [hex] at o4 b4 ⊢
  have eput : M.opn ++ [UInt8.ofNat q, UInt8.ofNat (n / 256), UInt8.ofNat n] ++ (bl s).take n = (putL b (bl s) M).opn := by
    show _ = M.opn ++ pieceB (kindB b (decide (stepN M (bl s) = (bl s).length))) ((bl s).take (stepN M (bl s)))
    rw [← hq0, ← hn]
    unfold pieceB
    rw [List.length_take, bl_length, Nat.min_eq_left hst']
    simp
  have l4 : (putL b (bl s) M).opn.length = M.opn.length + 3 + n := by rw [putL_length, ← hn]; omega
  rw [eput] at o4
  have X3' : LdX (GrowB C1 h'' h2) D1 (setsH h2 l 5 [.slice p2 (M.opn.length + 3) c2]) d τ l { M with opn := M.opn ++ [UInt8.ofNat q, UInt8.ofNat (n / 256), UInt8.ofNat n] } p2 c2 := X3
  have ne3 : ∀ bb, (Value.slice p2 (M.opn.length + 3) c2).ownBlock = some bb → bb ≠ l := fun bb hb => X3.ne (by rw [hsl]; exact hb)
  have cl4 : h4[l]? = (setsH h2 l 5 [.slice p2 (M.opn.length + 3) c2])[l]? := gr4.block l (X3.lt l X3.cl) fun e => ne3 l e.symm rfl
  refine ⟨l, 0, rfl, rfl, wrAt_of (cl4.trans X3.cell) (by show 0 + 5 + 1 ≤ 7; omega) (.inr (.inr (Nat.le_refl _))), ?_⟩
  rintro h5 rfl
  obtain ⟨X5, K5⟩ := X3.setRow (h1 := h4) (s := (putL b (bl s) M).opn) (p' := p4) (c' := c4) (by rw [hsl]; exact gr4) (by rw [l4]; exact o4) (by rw [l4, hsl]; exact b4)
  rw [l4] at X5 K5
  have W5 : LD _ _ d τ l (putL b (bl s) M) := ⟨_, _, _, X5⟩
  have K05 := (K1.trans K3).trans K5
  have hrest : bl (s.extract n s.size) = (bl s).drop (stepN M (bl s)) := by
    rw [bl_extract, ← hn, List.take_of_length_le]
    rw [List.length_drop, bl_length]; omega
  have hrsz : (s.extract n s.size).size = s.size - n := by rw [ByteArray.size_extract]; omega
  refine ⟨n, rfl, hst', Nat.le_refl _, _, rfl, (room_c W5 (putL_ok g.ok g3)).mono ?_⟩
  rintro e h6 ⟨rfl, rfl⟩
  have hrz5 : (putL b (bl s) M).roomZ = 491 - (putL b (bl s) M).opn.length := by
    unfold Lg.roomZ; rw [if_neg (by show ¬ M.i = M.count; omega)]
  rw [hrz5]
  have erun := hrun
  rw [appR, if_neg hbn] at erun
  refine ⟨_, rfl, fun hc => ?_, fun hc => ?_⟩
  · have hc : (491 : Int) - ((putL b (bl s) M).opn.length : Int) ≤ 3 := of_decide_eq_true hc
    rw [if_pos (by omega)] at erun
    obtain ⟨hh5, h05⟩ := K05.halves hh h0
    refine (lwrite_c W5 (putL_ok g.ok g3) hh5 h05 (by omega)).mono ?_
    rintro e h7 ⟨C7, W7, K7, rfl⟩
    refine ⟨_, rfl, fun hw => ?_, fun hw => ?_⟩
    · have hw : (writeL τ (putL b (bl s) M)).2.2 ≠ 0 := of_decide_eq_true hw
      rw [if_pos hw] at erun
      rw [erun]
      exact ⟨C7, W7, K05.trans K7, rfl⟩
    · have hw : ¬ (writeL τ (putL b (bl s) M)).2.2 ≠ 0 := of_decide_eq_false hw
      rw [if_neg hw] at erun
      have hm := @writeL_more τ (putL b (bl s) M)
      refine ⟨⟨k, _, false, C7, _, _, rfl, by omega, by omega, W7, K05.trans K7, ?_, ?_, by omega⟩, by show (s.extract n s.size).size < s.size; omega⟩
      · rw [hrest]; exact g.next hbn hw
      · rw [hrest]; exact erun
  · have hc : ¬ (491 : Int) - ((putL b (bl s) M).opn.length : Int) ≤ 3 := of_decide_eq_false hc
    rw [if_neg (by omega)] at erun
    refine ⟨⟨k, _, false, _, _, _, rfl, by omega, by omega, W5, K05, ?_, ?_, by omega⟩, by show (s.extract n s.size).size < s.size; omega⟩
    · rw [hrest]; exact g.rest hbn (by omega)
    · rw [hrest]; exact erun

theorem lappend_nil (r : ByteArray) (h : Hp) : CallsH Tryd.prog 11 #[.pointer none, .string r] h fun e h' => h' = h ∧ e = .returned (vZ 1) :=
  V11 _ _ h _ ⟨fun _ _ => False, ⟨true, ⟨true, eqv_nil uPL, fun _ => ⟨rfl, rfl⟩, fun hf => (by cases hf)⟩, fun _ => ⟨rfl, rfl⟩, fun hf => (by cases hf)⟩, fun _ hf => hf.elim⟩

end
end Go.Vc

