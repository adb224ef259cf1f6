/- Frames on a disk that is there; the first examples. -/
import Derived.Test.YthkbecpgbjejkaaDoorS9WFrF
set_option maxRecDepth 10000
namespace Go.Vc
open Go Go.Proofs Go.MapKept

section
variable {h a c : Hp} {d : Nat} {σ σ' : DS}

theorem Fresh.step (F : Fresh h a d σ) {B : Nat → Prop} (hB : B = fun b => h.size ≤ b ∧ b < a.size) (x : Same B a c) (D : DiskAt dI c (GrowB B a c) d σ') : Fresh h c d σ' := by
  subst hB
  exact ⟨F.1.over x fun b hb => hb.1, D.more (fun b hb => by rcases hb with hb | hb; exact ⟨hb.1, by have := x.size; omega⟩; exact ⟨by have := F.1.size; omega, hb.2⟩) fun b hb => hb.2⟩

theorem Fresh.go (F : Fresh h a d σ) {B : Nat → Prop} (hB : B = fun b => h.size ≤ b ∧ b < a.size) (x : Same B a c) (D : DiskAt dI c B d σ') : Fresh h c d σ' := by
  subst hB
  exact ⟨F.1.over x fun b hb => hb.1, D.more (fun b hb => ⟨hb.1, by have := x.size; omega⟩) fun b hb => hb.2⟩

theorem Fresh.ext (F : Fresh h a d σ) (x : Ext a c) : Fresh h c d σ :=
  ⟨F.1.trans x, (F.2.ext x).more (fun b hb => ⟨hb.1, by have := x.size; omega⟩) fun b hb => hb.2⟩

end

theorem write_ok {σ : DS} {n : Nat} {s : ByteArray} (hg : σ.gone = false) (hp : σ.plan = 0) (hn : n < σ.safe.length) (hs : s.size = 512) : σ.write (n : Int) s = ({ σ with pend := σ.pend ++ [(n, s)], writes := inc64 σ.writes }, 0) := by
  have ha : σ.asked (n : Int) = 0 := by
    unfold DS.asked
    rw [if_neg (by simp [hg]), if_neg (by omega)]
  have hst : σ.stepped = σ := by unfold DS.stepped; rw [if_pos hp]
  unfold DS.write
  rw [if_pos ha, if_pos hs, hst, if_neg (by simp [hg]), Int.toNat_natCast]

theorem flush_ok {σ : DS} (hg : σ.gone = false) (hp : σ.plan = 0) : σ.flush = ({ σ with safe := layAll σ.safe σ.pend, pend := [], flushes := inc64 σ.flushes }, 0) := by
  have hst : σ.stepped = σ := by unfold DS.stepped; rw [if_pos hp]
  unfold DS.flush
  rw [if_neg (by simp [hg]), hst, if_neg (by simp [hg])]

theorem infoFate : ∃ i y, Tryd.prog.info? 113 = some i ∧ i.zero = some y ∧ i.size = 2 ∧ y.cells.size = 2 := by
  have : (match Tryd.prog.info? 113 with | some i => (match i.zero with | some y => Nat.beq i.size 2 && Nat.beq y.cells.size 2 | none => false) | none => false) = true := by kernel_rfl
  split at this
  · rename_i i hi
    split at this
    · rename_i y hy
      simp only [Bool.and_eq_true, Nat.beq_eq] at this
      exact ⟨i, y, hi, hy, this.1, this.2⟩
    · cases this
  · cases this


theorem read_ok {σ : DS} {n : Nat} (hg : σ.gone = false) (hn : n < σ.safe.length) : σ.read (n : Int) = ({ σ with reads := inc64 σ.reads }, σ.look n, 0) := by
  unfold DS.read
  rw [if_pos]
  · rfl
  · unfold DS.asked
    rw [if_neg (by simp [hg]), if_neg (by omega)]

def markB (s : ByteArray) : UInt8 := UInt8.ofNat (markN s)

theorem put_ok {σ : DS} {n : Nat} {f : Frm} (hg : σ.gone = false) (hp : σ.plan = 0) (hn : n < σ.safe.length) (r : f.Right) :
    putF σ (n : Int) f = ({ σ with reads := inc64 σ.reads, pend := σ.pend ++ [(n, tx (sealL f (markB (σ.look n))))], writes := inc64 σ.writes }, 0) := by
  unfold putF
  rw [if_neg (by rw [r.wrong]; simp), read_ok hg hn]
  rw [if_neg (by simp)]
  have hs : (tx (sealL f (UInt8.ofNat (markN (σ.look n))))).size = 512 := by rw [tx_size, sealL_length r.b]
  exact write_ok (σ := { σ with reads := inc64 σ.reads }) hg hp hn hs

theorem get_ok {σ : DS} {n : Nat} (hg : σ.gone = false) (hn : n < σ.safe.length) : getF σ (n : Int) = ((openF (σ.look n)).1, (openF (σ.look n)).2.2) := by
  unfold getF
  rw [read_ok hg hn, if_neg (by simp)]

theorem bl_layT {x s : ByteArray} {k : Nat} (_ : x.size = 512) : bl (layT x s k) = (bl s).take k ++ (bl x).drop k := by
  unfold layT
  rw [bl_append, bl_extract, bl_extract, List.drop_zero, Nat.sub_zero, List.take_of_length_le (l := (bl x).drop k) (by rw [List.length_drop, bl_length]; omega)]

theorem layT_all {x s : ByteArray} (hs : s.size = 512) (hx : x.size = 512) : layT x s 512 = s := by
  apply bl_inj
  rw [bl_layT hx, List.take_of_length_le (by rw [bl_length]; omega), List.drop_of_length_le (by rw [bl_length]; omega), List.append_nil]

/-- A sector that was torn has two marks. -/
theorem open_torn {x s : ByteArray} {k : Nat} (hx : x.size = 512) (hs : s.size = 512) (h0 : 0 < k) (h1 : k < 512) (hne : (bl s).getD 0 0 ≠ (bl x).getD 511 0) : openF (layT x s k) = (Frm.no, 0, 50) := by
  have hl : (layT x s k).size = 512 := layT_size hx hs (by omega)
  have e0 : (bl (layT x s k)).getD 0 0 = (bl s).getD 0 0 := by
    rw [bl_layT hx, List.getD_eq_getElem?_getD, List.getElem?_append_left (by rw [List.length_take, bl_length]; omega), List.getElem?_take_of_lt h0, ← List.getD_eq_getElem?_getD]
  have e1 : (bl (layT x s k)).getD 511 0 = (bl x).getD 511 0 := by
    have ht : ((bl s).take k).length = k := by rw [List.length_take, bl_length]; omega
    rw [bl_layT hx, List.getD_eq_getElem?_getD, List.getElem?_append_right (by omega), ht, List.getElem?_drop, show k + (511 - k) = 511 by omega, ← List.getD_eq_getElem?_getD]
  unfold openF
  rw [if_neg (by omega), e0, e1, if_pos hne]

theorem Halves.pos {h : Hp} (x : Halves h) : 2 < h.size := by
  have := cellsAt_iff.1 x 0 (by decide)
  exact cellH_lt this

end Go.Vc
