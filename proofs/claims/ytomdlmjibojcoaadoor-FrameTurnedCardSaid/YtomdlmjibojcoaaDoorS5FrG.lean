/- Frames on a disk that is there; the first examples. -/
import Derived.Test.YtomdlmjibojcoaaDoorS5FrF
set_option maxRecDepth 10000
namespace Go.Vc
open Go Go.Proofs Go.MapKept

section
variable {h a c : Hp} {d : Nat} {σ σ' : DS}

theorem Fresh.step (F : Fresh h a d σ) {B : Nat → Prop} (hB : B = fun b => h.size ≤ b ∧ b < a.size) (x : Same B a c) (D : DiskAt dI c (GrowB B a c) d σ') : Fresh h c d σ' := by
  subst hB
  exact ⟨F.1.over x fun b hb => hb.1, D.more (fun b hb => by rcases hb with hb | hb; exact ⟨hb.1, by have := x.size; omega⟩; exact ⟨by have := F.1.size; omega, hb.2⟩) fun b hb => hb.2⟩

theorem Fresh.go (F : Fresh h a d σ) {B : Nat → Prop} (hB : B = fun b => h.size ≤ b ∧ b < a.size) (x : Same B a c) (D : DiskAt dI c B d σ') : Fresh h c d σ' := by
  subst hB
  exact ⟨F.1.over x fun b hb => hb.1, D.more (fun b hb => ⟨hb.1, by have := x.size; omega⟩) fun b hb => hb.2⟩

theorem Fresh.ext (F : Fresh h a d σ) (x : Ext a c) : Fresh h c d σ :=
  ⟨F.1.trans x, (F.2.ext x).more (fun b hb => ⟨hb.1, by have := x.size; omega⟩) fun b hb => hb.2⟩

end

theorem write_ok {σ : DS} {n : Nat} {s : ByteArray} (hg : σ.gone = false) (hp : σ.plan = 0) (hn : n < σ.safe.length) (hs : s.size = 512) : σ.write (n : Int) s = ({ σ with pend := σ.pend ++ [(n, s)], writes := inc64 σ.writes }, 0) := by
  have ha : σ.asked (n : Int) = 0 := by
    unfold DS.asked
    rw [if_neg (by simp [hg]), if_neg (by omega)]
  have hst : σ.stepped = σ := by unfold DS.stepped; rw [if_pos hp]
  unfold DS.write
  rw [if_pos ha, if_pos hs, hst, if_neg (by simp [hg]), Int.toNat_natCast]

theorem flush_ok {σ : DS} (hg : σ.gone = false) (hp : σ.plan = 0) : σ.flush = ({ σ with safe := layAll σ.safe σ.pend, pend := [], flushes := inc64 σ.flushes }, 0) := by
  have hst : σ.stepped = σ := by unfold DS.stepped; rw [if_pos hp]
  unfold DS.flush
  rw [if_neg (by simp [hg]), hst, if_neg (by simp [hg])]

theorem infoFate : ∃ i y, Tryd.prog.info? 55 = some i ∧ i.zero = some y ∧ i.size = 2 ∧ y.cells.size = 2 := by
  have : (match Tryd.prog.info? 55 with | some i => (match i.zero with | some y => Nat.beq i.size 2 && Nat.beq y.cells.size 2 | none => false) | none => false) = true := by kernel_rfl
  split at this
  · rename_i i hi
    split at this
    · rename_i y hy
      simp only [Bool.and_eq_true, Nat.beq_eq] at this
      exact ⟨i, y, hi, hy, this.1, this.2⟩
    · cases this
  · cases this


theorem read_ok {σ : DS} {n : Nat} (hg : σ.gone = false) (hn : n < σ.safe.length) : σ.read (n : Int) = ({ σ with reads := inc64 σ.reads }, σ.look n, 0) := by
  unfold DS.read
  rw [if_pos]
  · rfl
  · unfold DS.asked
    rw [if_neg (by simp [hg]), if_neg (by omega)]

def markB (s : ByteArray) : UInt8 := UInt8.ofNat (markN s)

theorem put_ok {σ : DS} {n : Nat} {f : Frm} (hg : σ.gone = false) (hp : σ.plan = 0) (hn : n < σ.safe.length) (r : f.Right) :
    putF σ (n : Int) f = ({ σ with reads := inc64 σ.reads, pend := σ.pend ++ [(n, tx (sealL f (markB (σ.look n))))], writes := inc64 σ.writes }, 0) := by
  unfold putF
  rw [if_neg (by rw [r.wrong]; simp), read_ok hg hn]
  rw [if_neg (by simp)]
  have hs : (tx (sealL f (UInt8.ofNat (markN (σ.look n))))).size = 512 := by rw [tx_size, sealL_length r.b]
  exact write_ok (σ := { σ with reads := inc64 σ.reads }) hg hp hn hs

theorem get_ok {σ : DS} {n : Nat} (hg : σ.gone = false) (hn : n < σ.safe.length) : getF σ (n : Int) = ((openF (σ.look n)).1, (openF (σ.look n)).2.2) := by
  unfold getF
  rw [read_ok hg hn, if_neg (by simp)]

theorem bl_layT {x s : ByteArray} {k : Nat} (_ : x.size = 512) : bl (layT x s k) = (bl s).take k ++ (bl x).drop k := by
  unfold layT
  rw [bl_append, bl_extract, bl_extract, List.drop_zero, Nat.sub_zero, List.take_of_length_le (l := (bl x).drop k) (by rw [List.length_drop, bl_length]; omega)]

theorem layT_all {x s : ByteArray} (hs : s.size = 512) (hx : x.size = 512) : layT x s 512 = s := by
  apply bl_inj
  rw [bl_layT hx, List.take_of_length_le (by rw [bl_length]; omega), List.drop_of_length_le (by rw [bl_length]; omega), List.append_nil]

/-- A sector that was torn has two marks. -/
theorem open_torn {x s : ByteArray} {k : Nat} (hx : x.size = 512) (hs : s.size = 512) (h0 : 0 < k) (h1 : k < 512) (hne : (bl s).getD 0 0 ≠ (bl x).getD 511 0) : openF (layT x s k) = (Frm.no, 0, 50) := by
  have hl : (layT x s k).size = 512 := layT_size hx hs (by omega)
  have e0 : (bl (layT x s k)).getD 0 0 = (bl s).getD 0 0 := by
    rw [bl_layT hx, List.getD_eq_getElem?_getD, List.getElem?_append_left (by rw [List.length_take, bl_length]; omega), List.getElem?_take_of_lt h0, ← List.getD_eq_getElem?_getD]
  have e1 : (bl (layT x s k)).getD 511 0 = (bl x).getD 511 0 := by
    have ht : ((bl s).take k).length = k := by rw [List.length_take, bl_length]; omega
    rw [bl_layT hx, List.getD_eq_getElem?_getD, List.getElem?_append_right (by omega), ht, List.getElem?_drop, show k + (511 - k) = 511 by omega, ← List.getD_eq_getElem?_getD]
  unfold openF
  rw [if_neg (by omega), e0, e1, if_pos hne]

def f0 : Frm := ⟨1, 2, 3, ⟨#[97, 98]⟩⟩
def f9 : Frm := ⟨9, 0, 0, ⟨#[]⟩⟩
theorem f0_right : f0.Right := ⟨by decide, by decide, by decide, by decide, by decide, by decide⟩
theorem f9_right : f9.Right := ⟨by decide, by decide, by decide, by decide, by decide, by decide⟩

theorem seal_first : (tx (sealL f0 7)).extract 0 18 = ⟨#[7, 1, 0, 0, 0, 0, 0, 0, 0, 2, 0, 0, 0, 3, 0, 2, 97, 98]⟩ := by
  apply bl_inj
  rw [bl_extract, bl_tx, List.drop_zero, Nat.sub_zero]
  have e : sealL f0 7 = [7, 1, 0, 0, 0, 0, 0, 0, 0, 2, 0, 0, 0, 3, 0, 2, 97, 98] ++ (List.replicate 489 0 ++ (leL (sumL (midL f0)) ++ [7])) := by
    have e1 : midL f0 = [1, 0, 0, 0, 0, 0, 0, 0, 2, 0, 0, 0, 3, 0, 2, 97, 98] ++ List.replicate 489 0 := by
      show beL 1 1 ++ (beL 8 2 ++ (beL 4 3 ++ (beL 2 2 ++ ([97, 98] ++ List.replicate 489 0)))) = _
      rfl
    unfold sealL
    generalize hs : leL (sumL (midL f0)) = s
    rw [e1]
    rfl
  rw [e]
  rfl

theorem Halves.pos {h : Hp} (x : Halves h) : 0 < h.size := by
  have := cellsAt_iff.1 x 0 (by decide)
  exact cellH_lt this

set_option maxHeartbeats 1000000 in
/-- turnoutlaw05.awake -/
theorem awake_c (h : Hp) (hh : Halves h) : CallsH Tryd.prog 11 #[] h fun e h' => Ext h h' ∧ e = .returned (.bool true) := by
  have h0 := hh.pos
  refine V11 h _ ((seal_c f0 f0_right.ok 7 h hh).mono ?_)
  rintro e h1 ⟨x1, rfl⟩
  have hse : sealF f0 7 = (tx (sealL f0 7), 0) := rfl
  rw [hse]
  have hsz : (tx (sealL f0 7)).size = 512 := by rw [tx_size, sealL_length f0_right.b]
  have hlast : (bl (tx (sealL f0 7))).getD 511 0 = 7 := by rw [bl_tx]; exact (seal_mark f0_right.b).2
  refine ⟨_, _, rfl, fun l hq => l = [] ∧ hq = h1, ⟨false, ⟨fun hf => (by simp at hf), fun _ => ⟨fun hf => (by rw [hsz] at hf; simp at hf), fun _ => ⟨18, rfl, Nat.zero_le _, (by show 18 ≤ (tx (sealL f0 7)).size; omega), _, rfl, fun hf => ?_, fun _ => ⟨by decide, _, byteD (i := 511) (by show 511 < (tx (sealL f0 7)).size; omega), rfl, ?_⟩⟩⟩⟩, fun hB => (by cases hB), fun _ => ⟨rfl, rfl⟩⟩, ?_⟩
  · rw [seal_first] at hf
    simp at hf
  · rw [hlast]; decide
  rintro h1' ⟨_, rfl⟩
  refine (open_c _ h1' (hh.ext x1)).mono ?_
  rintro e h2 ⟨x2, rfl⟩
  rw [open_seal f0_right]
  have x02 := x1.trans x2
  unfold openV
  refine ⟨f0.kind, f0.number, f0.index, f0.body, _, _, rfl, ?_⟩
  intro b h3 hb e3
  have x3 : Ext h2 h3 := by rw [e3]; exact Ext.push _ _
  have c3 : h3[b]? = some (.cells (frmV Frm.no).toArray 24) := by rw [e3, hb, zerosFrame]; exact push_last
  clear e3
  have fs := frm_set c3 f0
  refine ⟨infoFrame, rfl, fs.2.1, fs.2.2.1, ?_⟩
  intro h4 e4
  have hs2 := x02.size
  have c4 : h4[b]? = some (.cells (frmV f0).toArray 24) := by rw [e4]; exact fs.2.2.2
  have x04 : Ext h h4 := by rw [e4]; exact (x02.trans x3).over (setsH_same (B := fun x => x = b) rfl) fun x hx => by omega
  have lb := (Array.getElem?_eq_some_iff.1 c4).1
  clear e4 fs c3 x3
  refine (new_c (1 : Int)).mono ?_
  rintro e h5 (⟨hbad, rfl, rfl⟩ | ⟨_, _, d, F5, rfl⟩)
  · omega
  have hs4 := x04.size
  refine ⟨_, _, rfl, fun l hq => l = [] ∧ hq = h5, ⟨false, ⟨false, eqv_ptr uPD _, fun hf => (by cases hf), fun _ => ⟨rfl, rfl⟩⟩, fun hB => (by cases hB), fun _ => ⟨rfl, rfl⟩⟩, ?_⟩
  rintro h5' ⟨_, rfl⟩
  have c5 := (F5.1.old b lb).trans c4
  refine ⟨_, _, _, _, cellsAt_all (vs := frmV f0) c5, (put_c F5.2 (hh.ext (x04.trans F5.1)) (by rintro ⟨h1, _⟩; omega) ((0 : Nat) : Int) f0 f0_right.ok (by show (0 : Nat) ≤ _; omega)).mono ?_⟩
  rintro e h6 ⟨y6, D6, rfl⟩
  rw [put_ok rfl rfl (by decide) f0_right] at D6 ⊢
  have F6 := F5.step rfl y6 D6
  refine ⟨_, rfl, (put_c F6.2 (hh.ext (x04.trans F6.1)) (by rintro ⟨h1, _⟩; omega) ((0 : Nat) : Int) f9 f9_right.ok (by show (1 : Nat) ≤ _; omega)).mono ?_⟩
  rintro e h7 ⟨y7, D7, rfl⟩
  rw [put_ok rfl rfl (by decide) f9_right] at D7 ⊢
  have F7 := F6.step rfl y7 D7
  refine ⟨_, rfl, semH_buildS (t := 44) (e := 55) (by kernel_rfl) (z := 2) (by decide) infoFate (rows := [(1, 0), (2, 100)].map fateV) (by simp [fateV]) rfl rfl (by simp) (by simp) ⟨_, _, _, rfl, ?_⟩⟩
  have x8 : Ext h7 (h7.push (.cells ([((1 : Int), (0 : Int)), (2, 100)].map fateV).flatten.toArray 55)) := Ext.push _ _
  have hseg : SegS (h7.push (.cells ([((1 : Int), (0 : Int)), (2, 100)].map fateV).flatten.toArray 55)) (some ⟨h7.size, 0, none⟩) 2 2 ([((1 : Int), (0 : Int)), (2, 100)].map fateV) :=
    ⟨rfl, by simp [fateV], .inr ⟨_, _, rfl, cellsAt_all push_last⟩⟩
  generalize (h7.push (.cells ([((1 : Int), (0 : Int)), (2, 100)].map fateV).flatten.toArray 55)) = h8 at x8 hseg
  have D8 := F7.2.ext x8
  refine (crash_c D8 [(1, 0), (2, 100)] hseg (by intro b o hp _ hb; cases hp; omega)).mono ?_
  rintro e h9 ⟨y9, D9, rfl⟩
  have x09 : Ext h h9 := ((x04.trans F7.1).trans x8).over y9 fun b hb => by omega
  refine ⟨rfl, (get_c D9 (hh.ext x09) (by rintro ⟨h1, _⟩; omega) ((0 : Nat) : Int)).mono ?_⟩
  rintro e h10 ⟨y10, D10, rfl⟩
  rw [get_ok rfl D9.ok.pos]
  have hz : (bl zero512).getD 511 0 = 0 := rfl
  have hm1 : markB ((DS.new (Int.toNat 1)).look 0) = 1 := rfl
  rw [hm1]
  have s1 : (tx (sealL f0 1)).size = 512 := by rw [tx_size, sealL_length f0_right.b]
  have hl2 : (DS.look { DS.new (Int.toNat 1) with reads := inc64 (DS.new (Int.toNat 1)).reads, pend := (DS.new (Int.toNat 1)).pend ++ [(0, tx (sealL f0 1))], writes := inc64 (DS.new (Int.toNat 1)).writes } 0) = tx (sealL f0 1) := rfl
  have hm2 : markB (tx (sealL f0 1)) = 2 := by
    unfold markB markN
    rw [bl_tx, (seal_mark f0_right.b).2]
    rfl
  rw [hl2, hm2]
  have s2 : (tx (sealL f9 2)).size = 512 := by rw [tx_size, sealL_length f9_right.b]
  have e1 : (DS.look (DS.crash { DS.new (Int.toNat 1) with reads := inc64 (inc64 (DS.new (Int.toNat 1)).reads), pend := (DS.new (Int.toNat 1)).pend ++ [(0, tx (sealL f0 1))] ++ [(0, tx (sealL f9 2))], writes := inc64 (inc64 (DS.new (Int.toNat 1)).writes) } [(1, 0), (2, 100)]) 0) = layT (layT zero512 (tx (sealL f0 1)) 512) (tx (sealL f9 2)) 100 := rfl
  rw [e1, layT_all s1 zero512_size, open_torn s1 s2 (by decide) (by decide) (by rw [bl_tx, bl_tx, (seal_mark f9_right.b).1, (seal_mark f0_right.b).2]; decide)]
  have x010 : Ext h h10 := x09.over y10 fun b hb => by omega
  refine ⟨_, _, _, _, _, rfl, ?_⟩
  intro b1 h11 hb1 e11
  have x11 : Ext h10 h11 := by rw [e11]; exact Ext.push _ _
  have c11 : h11[b1]? = some (.cells (frmV Frm.no).toArray 24) := by rw [e11, hb1, zerosFrame]; exact push_last
  clear e11
  have fs := frm_set c11 Frm.no
  refine ⟨infoFrame, rfl, fs.2.1, fs.2.2.1, ?_⟩
  intro h12 e12
  have hs10 := x010.size
  have y12 : Same (fun x => x = b1) h11 h12 := by rw [e12]; exact setsH_same rfl
  have x012 : Ext h h12 := (x010.trans x11).over y12 fun x hx => by omega
  have l5 := F5.1.size
  have l7 := F7.1.size
  have l8 := x8.size
  have l9 := y9.size
  have l10 := y10.size
  have k6 := (y6.old b (by omega) fun hb => by omega).trans c5
  have cb : h12[b]? = some (.cells (frmV f0).toArray 24) := by
    have t4 := (F7.1.old b (by omega)).trans c4
    have t8 := (x8.old b (by omega)).trans t4
    have t9 := (y9.old b (by omega) fun hb => by omega).trans t8
    have t10 := (y10.old b (by omega) fun hb => by omega).trans t9
    have t11 := (x11.old b (by omega)).trans t10
    exact (y12.old b (by have := x11.size; omega) (by omega)).trans t11
  refine ⟨true, ⟨fun _ => ⟨fun _ => ⟨f0.body, cellsAt_one (cellH_at cb), fun _ => ⟨f0.index, cellsAt_one (cellH_at cb), fun _ => ⟨fun _ => ⟨fun _ => ⟨rfl, rfl⟩, fun hf => (by cases hf)⟩, fun hf => (by cases hf)⟩, fun hf => (by cases hf)⟩, fun hf => (by simp [f0] at hf)⟩, fun hf => (by cases hf)⟩, fun hf => (by cases hf)⟩, x012, rfl⟩

end Go.Vc
