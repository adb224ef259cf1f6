import Derived.Test.YtlidgpojlgochaaGreatDoorS9ZCkC
set_option maxRecDepth 10000
/- Checkpoints: which heads can be taken. -/
namespace Go.Vc
open Go Go.Proofs Go.MapKept

/-! ## What is told -/

structure Tk where
  h : Hd
  size : Nat
  sum : Nat
  deriving DecidableEq

abbrev vW32 (n : Nat) : Value := .int .u32 (n : Int)
def tkV (t : Tk) : List Value := [vZ t.h.slot, vU t.h.gen, vU t.h.ep, vZ t.h.ls, vZ t.h.ll, vI t.size, vW32 t.sum]
def Tk.no : Tk := ⟨Hd.no, 0, 0⟩
/-- What twenty bytes say, of a disk of so many sectors. -/
def tkL (n : Nat) (slot : Int) (gen : Nat) (L : List UInt8) : Tk :=
  ⟨⟨slot, gen, numL (L.take 8), (layF n (numL ((L.drop 8).take 4))).1.1, (layF n (numL ((L.drop 8).take 4))).1.2⟩, numL ((L.drop 12).take 4), numL ((L.drop 16).take 4)⟩
def tkOk (n : Nat) (L : List UInt8) (t : Tk) : Bool := decide ((layF n (numL ((L.drop 8).take 4))).2 = 0 ∧ rightH n t.h = true ∧ 1 ≤ t.size ∧ (t.size : Int) ≤ mostH t.h)
def Frm.isHead (f : Frm) (slot : Int) : Prop := f.kind = 1 ∧ f.index = slot ∧ f.body.size = 20
instance (f : Frm) (slot : Int) : Decidable (f.isHead slot) := inferInstanceAs (Decidable (_ ∧ _ ∧ _))
def takeF (σ : DS) (slot : Int) : Tk × Bool × Int :=
  if (getF σ slot).2 = 40 then (Tk.no, false, 40)
  else if (getF σ slot).2 ≠ 0 ∨ ¬ (getF σ slot).1.isHead slot then (Tk.no, false, 0)
  else (tkL σ.safe.length slot (getF σ slot).1.number (bl (getF σ slot).1.body), tkOk σ.safe.length (bl (getF σ slot).1.body) (tkL σ.safe.length slot (getF σ slot).1.number (bl (getF σ slot).1.body)), 0)

def stN (σ : DS) : Nat → DS × List Tk
  | 0 => (σ, [])
  | i + 1 => (((stN σ i).1.read i).1, (stN σ i).2 ++ (if (takeF (stN σ i).1 i).2.1 = true then [(takeF (stN σ i).1 i).1] else []))
def sortT : List Tk → List Tk
  | [a, b] => if a.h.gen < b.h.gen then [b, a] else [a, b]
  | l => l
def newestF (σ : DS) : DS × List Tk × Int :=
  if (takeF (stN σ 0).1 0).2.2 ≠ 0 then ((stN σ 1).1, [], (takeF (stN σ 0).1 0).2.2)
  else if (takeF (stN σ 1).1 1).2.2 ≠ 0 then ((stN σ 2).1, [], (takeF (stN σ 1).1 1).2.2)
  else ((stN σ 2).1, sortT (stN σ 2).2, 0)

theorem read_safe {σ : DS} {n : Int} : (σ.read n).1.safe = σ.safe := by unfold DS.read; split <;> rfl

/-! ## How -/

theorem zerosTk : zeros Tryz.prog 101 = (tkV Tk.no).toArray := by kernel_rfl
theorem infoTk : ∃ i z, Tryz.prog.info? 101 = some i ∧ i.zero = some z := by
  have : ((Tryz.prog.info? 101).bind (·.zero)).isSome = true := by kernel_rfl
  obtain ⟨z, hz⟩ := Option.isSome_iff_exists.1 this
  obtain ⟨i, hi, hz⟩ := Option.bind_eq_some_iff.1 hz
  exact ⟨i, z, hi, hz⟩
theorem rowTk : RowT Tryz.prog 96 101 7 56 := RowT.of (by kernel_rfl)
theorem rowHd : RowT Tryz.prog 84 39 5 40 := RowT.of (by kernel_rfl)

theorem tk_set {h : Hp} {b : Nat} {t : TypeId} {f : Tk} (c : h[b]? = some (.cells (tkV f).toArray t)) (g : Tk) :
    List.length (tkV g) = 7 ∧ (∀ v ∈ tkV g, v.oneCell' = true) ∧ wrAt h b 0 7 ∧ (setsH h b 0 (tkV g))[b]? = some (.cells (tkV g).toArray t) :=
  ⟨rfl, by simp [tkV, Value.oneCell'], (all_set c (tkV g) rfl).1, (all_set c (tkV g) rfl).2⟩
theorem tk_hd {h : Hp} {b : Nat} {t : TypeId} {f : Tk} (c : h[b]? = some (.cells (tkV f).toArray t)) : cellsAt h b (0 + 0) (hdV f.h) :=
  cellsAt_of c fun j hj => by
    match j, hj with
    | 0, _ => rfl
    | 1, _ => rfl
    | 2, _ => rfl
    | 3, _ => rfl
    | 4, _ => rfl

theorem rd_fixed {b : List UInt8} {p q : Nat} (k : Nat) {K : Int} (hK : K = (k : Int)) (h1 : 1 ≤ k) (h8 : k ≤ 8) (h : p + k ≤ b.length) : (⟨b, p, 0, q⟩ : Rd).fixed K = (numL ((b.drop p).take k), ⟨b, p + k, 0, q⟩) := by
  subst hK
  have hl : (⟨b, p, 0, q⟩ : Rd).left = b.drop p := rfl
  unfold Rd.fixed
  rw [if_neg (by simp), if_neg (by omega), hl, if_neg (by rw [List.length_drop]; omega), Int.toNat_natCast]
  rfl

section
variable {h : Hp} {B : Nat → Prop} {d : Nat} {σ : DS}

set_option maxHeartbeats 1000000 in
/-- ckpt.take -/
theorem takeH_c (D : DiskAt dI h B d σ) (hh : Halves h) (h0 : ¬ B 0) (slot : Int) : CallsH Tryz.prog 70 #[vP d, vZ slot] h fun e h' =>
    Same B h h' ∧ DiskAt dI h' B d (σ.read slot).1 ∧ e = .returned (.tuple #[.agg (tkV (takeF σ slot).1).toArray, .bool (takeF σ slot).2.1, vZ (takeF σ slot).2.2]) := by
  refine V70 _ _ h _ ?_
  intro b g1 hb e1
  have x1 : Ext h g1 := by rw [e1]; exact Ext.push _ _
  have cb1 : g1[b]? = some (.cells (tkV Tk.no).toArray 101) := by rw [e1, hb, zerosTk]; exact push_last
  clear e1
  have lb1 := (Array.getElem?_eq_some_iff.1 cb1).1
  refine ⟨infoTk, (get_c (D.ext x1) (hh.ext x1) h0 slot).mono ?_⟩
  rintro e g2 ⟨y2, D2, rfl⟩
  obtain ⟨f, hf⟩ : ∃ f, f = (getF σ slot).1 := ⟨_, rfl⟩
  obtain ⟨c, hc⟩ : ∃ c, c = (getF σ slot).2 := ⟨_, rfl⟩
  rw [← hf, ← hc]
  refine ⟨_, _, _, _, _, rfl, ?_⟩
  intro b1 g3 hb1 e3
  have x3 : Ext g2 g3 := by rw [e3]; exact Ext.push _ _
  have c3 : g3[b1]? = some (.cells (frmV Frm.no).toArray 95) := by rw [e3, hb1, zerosFrame]; exact push_last
  clear e3
  obtain ⟨q1, q2, q3, q4⟩ := frm_set c3 f
  refine ⟨infoFrame, rfl, q2, q3, ?_⟩
  intro g4 e4
  have hbB : ¬ B b := fun hx => by have := D.lt _ hx; omega
  have l1 := x1.size
  have l2 := y2.size
  have x4 : Ext g2 g4 := by rw [e4]; exact x3.over (setsH_same (B := fun x => x = b1) rfl) fun x hx => by omega
  have cf : g4[b1]? = some (.cells (frmV f).toArray 95) := by rw [e4]; exact q4
  clear e4 q1 q2 q3 q4 c3 x3
  have cb4 : g4[b]? = some (.cells (tkV Tk.no).toArray 101) := (x4.old b (by omega)).trans ((y2.old b lb1 hbB).trans cb1)
  have y04 : Same B h g4 := ((x1.same B).trans y2 fun _ h _ => h).trans (x4.same B) fun _ h _ => h
  have D4 := D2.ext x4
  -- the end: the result is set
  have fin : ∀ (t : Tk) (ok : Bool) (code : Int) (gq gr : Hp), Ext g4 gq → takeF σ slot = (t, ok, code) → gr = setsH gq b 0 (tkV t) →
      ∃ f0 f1 f2 f3 f4 f5 f6 : Int, cellsAt gr b 0 [vZ f0, .int .u64 f1, .int .u64 f2, vZ f3, vZ f4, vZ f5, .int .u32 f6] ∧
        (Same B h gr ∧ DiskAt dI gr B d (σ.read slot).1 ∧ Ending.returned (.tuple #[.agg #[vZ f0, .int .u64 f1, .int .u64 f2, vZ f3, vZ f4, vZ f5, .int .u32 f6], .bool ok, vZ code]) = .returned (.tuple #[.agg (tkV (takeF σ slot).1).toArray, .bool (takeF σ slot).2.1, vZ (takeF σ slot).2.2])) := by
    intro t ok code gq gr x et er
    have cq := (x.old b (Array.getElem?_eq_some_iff.1 cb4).1).trans cb4
    have cr := (tk_set cq t).2.2.2
    rw [← er] at cr
    have ys : Same (fun x => x = b) gq gr := by rw [er]; exact setsH_same rfl
    refine ⟨_, _, _, _, _, _, _, cellsAt_all (vs := tkV t) cr, ?_, (D4.ext x).other ys fun x hx e => hbB (e ▸ hx), by rw [et]; rfl⟩
    exact (y04.trans (x.same B) fun _ h _ => h).trans ys fun x hx hl => by omega
  have wr : ∀ (gq : Hp), Ext g4 gq → wrAt gq b 0 7 := fun gq x => (tk_set ((x.old b (Array.getElem?_eq_some_iff.1 cb4).1).trans cb4) Tk.no).2.2.1
  have one : ∀ t : Tk, ∀ v ∈ tkV t, v.oneCell' = true := fun t => by simp [tkV, Value.oneCell']
  refine ⟨fun h40 => ?_, fun h40 => ?_⟩
  · have h40 : c = 40 := of_decide_eq_true h40
    refine ⟨rfl, one Tk.no, wr _ (Ext.refl _), fun gr er => ?_⟩
    rw [h40]
    exact fin Tk.no false 40 g4 gr (Ext.refl _) (by unfold takeF; rw [← hc, if_pos h40]) er
  have h40 : ¬ c = 40 := of_decide_eq_false h40
  refine ⟨fun l hq => hq = g4 ∧ c = 0 ∧ f.isHead slot, ⟨decide (c ≠ 0 ∨ ¬ f.isHead slot), ⟨fun k => ⟨rfl, ?_⟩, fun k => ⟨_, cellsAt_one (cellH_at cf), fun k1 => ⟨rfl, ?_⟩, fun k1 => ⟨_, cellsAt_one (cellH_at cf), fun k2 => ⟨rfl, ?_⟩, fun k2 => ⟨_, cellsAt_one (cellH_at cf), rfl, ?_⟩⟩⟩⟩, fun hB => ?_, fun hB => ?_⟩, ?_⟩
  · exact decide_eq_true (p := c ≠ 0 ∨ ¬ f.isHead slot) (.inl (of_decide_eq_true k))
  · have k1 : f.kind ≠ 1 := of_decide_eq_true k1
    exact decide_eq_true (p := c ≠ 0 ∨ ¬ f.isHead slot) (.inr fun hh => k1 hh.1)
  · have k2 : f.index ≠ slot := of_decide_eq_true k2
    exact decide_eq_true (p := c ≠ 0 ∨ ¬ f.isHead slot) (.inr fun hh => k2 hh.2.1)
  · have k : ¬ c ≠ 0 := of_decide_eq_false k
    have k1 : ¬ f.kind ≠ 1 := of_decide_eq_false k1
    have k2 : ¬ f.index ≠ slot := of_decide_eq_false k2
    apply decide_eq_decide.2
    constructor
    · rintro (hh | hh)
      · exact (k hh).elim
      · intro h20
        exact hh ⟨by omega, by omega, by omega⟩
    · intro hh
      exact .inr fun h3 => hh (by have := h3.2.2; omega)
  · have hB := of_decide_eq_true hB
    refine ⟨rfl, one Tk.no, wr _ (Ext.refl _), fun gr er => ?_⟩
    exact fin Tk.no false 0 g4 gr (Ext.refl _) (by unfold takeF; rw [← hc, ← hf, if_neg h40, if_pos hB]) er
  · have hB := of_decide_eq_false hB
    exact ⟨rfl, by omega, Decidable.of_not_not fun hh => hB (.inr hh)⟩
  rintro g4' ⟨rfl, hc0, hhd⟩
  have hsz := hhd.2.2
  obtain ⟨L, hL⟩ : ∃ L, L = bl f.body := ⟨_, rfl⟩
  have hLl : L.length = 20 := by rw [hL, bl_length, hsz]
  have hn : (σ.read slot).1.safe.length = σ.safe.length := by rw [read_safe]
  have htk : takeF σ slot = (tkL σ.safe.length slot f.number L, tkOk σ.safe.length L (tkL σ.safe.length slot f.number L), 0) := by
    unfold takeF
    rw [← hc, ← hf, if_neg h40, if_neg (by rintro (h | h); exact h hc0; exact h hhd), ← hL]
  obtain ⟨t, ht⟩ : ∃ t, t = tkL σ.safe.length slot f.number L := ⟨_, rfl⟩
  rw [← ht] at htk
  refine ⟨_, cellsAt_one (cellH_at cf), (ropen_c f.body (by omega) g4').mono ?_⟩
  rintro e g5 ⟨x5, R5, rfl⟩
  rw [← hL] at R5
  have p4 : ∀ {ga gb : Hp}, Ext g4' ga → Same (P1 g4'.size) ga gb → Ext g4' gb := fun x y => x.over y fun b hb => by rw [hb]; exact Nat.le_refl _
  refine ⟨_, rfl, (rfixed_c R5 8 (by decide)).mono ?_⟩
  rintro e g6 ⟨y6, R6, rfl⟩
  rw [show Rd.open L = ⟨L, 0, 0, 0⟩ from rfl, rd_fixed (K := (8 : Int)) 8 rfl (by decide) (by decide) (by omega)] at R6 ⊢
  have x6 := p4 x5 y6
  refine ⟨_, rfl, (size_c (D4.ext x6)).mono ?_⟩
  rintro e g6' ⟨rfl, rfl⟩
  rw [hn]
  refine ⟨_, rfl, (rfixed_c R6 4 (by decide)).mono ?_⟩
  rintro e g7 ⟨y7, R7, rfl⟩
  rw [rd_fixed (K := (4 : Int)) 4 rfl (by decide) (by decide) (by omega)] at R7 ⊢
  have x7 := p4 x6 y7
  have hs4 : ∀ j, numL ((L.drop j).take 4) < 4294967296 := fun j => numL_small (k := 4) (by rw [List.length_take]; omega)
  have hs8 : numL ((L.drop 0).take 8) < 18446744073709551616 := numL_small (k := 8) (by rw [List.length_take]; omega)
  obtain ⟨n8, hn8⟩ : ∃ n8, n8 = numL ((L.drop (0 + 8)).take 4) := ⟨_, rfl⟩
  have k8 : n8 < 4294967296 := by rw [hn8]; exact hs4 _
  rw [← hn8]
  refine ⟨_, rfl, (n8 : Int), wrapI64 (by omega) (by omega), (layout_c _ (n8 : Int) (by omega) g7).mono ?_⟩
  rintro e g8 ⟨x8, rfl⟩
  obtain ⟨ly, hly⟩ : ∃ ly, ly = layF (σ.safe.length : Int) (n8 : Int) := ⟨_, rfl⟩
  rw [← hly]
  refine ⟨_, _, _, rfl, ?_⟩
  intro b2 g9 hb2 e9
  have x9 : Ext g8 g9 := by rw [e9]; exact Ext.push _ _
  have c9 : g9[b2]? = some (.cells (lyV (0, 0)).toArray 37) := by rw [e9, hb2, zerosLay]; exact push_last
  clear e9
  obtain ⟨q1, q2, q3, q4⟩ := ly_set c9 ly.1
  refine ⟨infoLay, rfl, q2, q3, ?_⟩
  intro g10 e10
  have x10 : Ext g8 g10 := by rw [e10]; exact x9.over (setsH_same (B := fun x => x = b2) rfl) fun x hx => by omega
  have c10 : g10[b2]? = some (.cells (lyV ly.1).toArray 37) := by rw [e10]; exact q4
  clear e10 q1 q2 q3 q4 c9 x9
  have x410 : Ext g4' g10 := (x7.trans x8).trans x10
  have cf10 := (x410.old b1 (Array.getElem?_eq_some_iff.1 cf).1).trans cf
  refine ⟨_, cellsAt_one (cellH_at cf10), _, _, cellsAt_all (vs := lyV ly.1) c10, ?_⟩
  intro b3 g11 hb3 e11
  have x11 : Ext g10 g11 := by rw [e11]; exact Ext.push _ _
  have c11 : g11[b3]? = some (.cells (tkV Tk.no).toArray 101) := by rw [e11, hb3, zerosTk]; exact push_last
  clear e11
  obtain ⟨H, hH⟩ : ∃ H : Hd, H = ⟨slot, f.number, numL ((L.drop 0).take 8), ly.1.1, ly.1.2⟩ := ⟨_, rfl⟩
  have eV : ∀ a s : Nat, [vZ slot, vU f.number, vU (numL ((L.drop 0).take 8)), vZ ly.1.1, vZ ly.1.2, vI a, vW32 s] = tkV ⟨H, a, s⟩ := fun a s => by rw [hH]; rfl
  obtain ⟨q1, q2, q3, q4⟩ := tk_set c11 ⟨H, 0, 0⟩
  refine ⟨infoTk, rfl, by rw [hH] at q2; exact q2, q3, ?_⟩
  intro g12 e12
  have e12 : g12 = setsH g11 b3 0 (tkV ⟨H, 0, 0⟩) := by rw [e12, hH]; rfl
  have l10 := x410.size
  have x12 : Ext g10 g12 := by rw [e12]; exact x11.over (setsH_same (B := fun x => x = b3) rfl) fun x hx => by omega
  have c12 : g12[b3]? = some (.cells (tkV ⟨H, 0, 0⟩).toArray 101) := by rw [e12]; exact q4
  clear e12 q1 q2 q3 q4 c11 x11
  have x412 := x410.trans x12
  have R12 := ((R7.ext x8).ext x10).ext x12
  have hpb : g4'.size < b3 := by have := R5.lt; have := x6.size; have := y6.size; have := y7.size; have := x8.size; have := x10.size; omega
  refine (rfixed_c R12 4 (by decide)).mono ?_
  rintro e g13 ⟨y13, R13, rfl⟩
  rw [rd_fixed (K := (4 : Int)) 4 rfl (by decide) (by decide) (by omega)] at R13 ⊢
  have x413 := p4 x412 y13
  have c13 : g13[b3]? = some (.cells (tkV ⟨H, 0, 0⟩).toArray 101) := (y13.old b3 (Array.getElem?_eq_some_iff.1 c12).1 (by show ¬ b3 = _; omega)).trans c12
  obtain ⟨sz, hsz'⟩ : ∃ sz, sz = numL ((L.drop (0 + 8 + 4)).take 4) := ⟨_, rfl⟩
  have ksz : sz < 4294967296 := by rw [hsz']; exact hs4 _
  rw [← hsz']
  refine ⟨_, rfl, (sz : Int), wrapI64 (by omega) (by omega), rfl, wrAt_of c13 (by show 0 + 5 + 1 ≤ 7; decide) (.inl (Nat.zero_le _)), ?_⟩
  intro g14 e14
  have c14 : g14[b3]? = some (.cells (tkV ⟨H, sz, 0⟩).toArray 101) := by rw [e14, setsH_at c13]; rfl
  have x414 : Ext g4' g14 := by rw [e14]; exact x413.over (setsH_same (B := fun x => x = b3) rfl) fun x hx => by omega
  have R14 : RdAt g14 g4'.size ⟨L, 0 + 8 + 4 + 4, 0, 0⟩ := by
    rw [e14]
    exact R13.other (setsH_same (B := fun x => x = b3) rfl) (by omega)
  clear e14
  refine (rfixed_c R14 4 (by decide)).mono ?_
  rintro e g15 ⟨y15, R15, rfl⟩
  rw [rd_fixed (K := (4 : Int)) 4 rfl (by decide) (by decide) (by omega)]
  have x415 := p4 x414 y15
  have c15 : g15[b3]? = some (.cells (tkV ⟨H, sz, 0⟩).toArray 101) := (y15.old b3 (Array.getElem?_eq_some_iff.1 c14).1 (by show ¬ b3 = _; omega)).trans c14
  obtain ⟨sm, hsm⟩ : ∃ sm, sm = numL ((L.drop (0 + 8 + 4 + 4)).take 4) := ⟨_, rfl⟩
  have ksm : sm < 4294967296 := by rw [hsm]; exact hs4 _
  rw [← hsm]
  refine ⟨_, rfl, (sm : Int), by rw [wrapU32]; omega, rfl, wrAt_of c15 (by show 0 + 6 + 1 ≤ 7; decide) (.inl (Nat.zero_le _)), ?_⟩
  intro g16 e16
  have c16 : g16[b3]? = some (.cells (tkV ⟨H, sz, sm⟩).toArray 101) := by rw [e16, setsH_at c15]; rfl
  have x416 : Ext g4' g16 := by rw [e16]; exact x415.over (setsH_same (B := fun x => x = b3) rfl) fun x hx => by omega
  clear e16
  have et : t = ⟨H, sz, sm⟩ := by rw [ht, hH, hsz', hsm, hly, hn8]; rfl
  rw [← et] at c16
  have etH : t.h = H := by rw [et]
  have etS : t.size = sz := by rw [et]
  have hok : tkOk σ.safe.length L t = decide (ly.2 = 0 ∧ rightH σ.safe.length t.h = true ∧ 1 ≤ t.size ∧ (t.size : Int) ≤ mostH t.h) := by
    unfold tkOk
    rw [hly, hn8]
  have cv : ∀ {gq : Hp}, Ext g16 gq → gq[b3]? = some (.cells (tkV t).toArray 101) := fun x => (x.old b3 (Array.getElem?_eq_some_iff.1 c16).1).trans c16
  have hls : H.ls ≤ 9223372036854775807 ∧ (rightH σ.safe.length H = true → -1000000000 ≤ H.ls ∧ H.ls ≤ 1000000000) := by
    refine ⟨?_, fun hr => by have := rightH_ok hr; omega⟩
    have : H.ls = ly.1.1 := by rw [hH]
    rw [this, hly]
    unfold layF
    split
    · decide
    · split
      · decide
      · show (n8 : Int) ≤ _; omega
  have done : ∀ (gq : Hp), Ext g16 gq → (ok : Bool) → tkOk σ.safe.length L t = ok → 
      ∃ f0 f1 f2 f3 f4 f5 f6 : Int, cellsAt gq b3 0 [vZ f0, .int .u64 f1, .int .u64 f2, vZ f3, vZ f4, vZ f5, .int .u32 f6] ∧ List.length [vZ f0, .int .u64 f1, .int .u64 f2, vZ f3, vZ f4, vZ f5, .int .u32 f6] = 7 ∧
        (∀ c ∈ [vZ f0, .int .u64 f1, .int .u64 f2, vZ f3, vZ f4, vZ f5, .int .u32 f6], c.oneCell' = true) ∧ wrAt gq b 0 7 ∧ ∀ gr, gr = setsH gq b 0 [vZ f0, .int .u64 f1, .int .u64 f2, vZ f3, vZ f4, vZ f5, .int .u32 f6] →
        ∃ f0 f1 f2 f3 f4 f5 f6 : Int, cellsAt gr b 0 [vZ f0, .int .u64 f1, .int .u64 f2, vZ f3, vZ f4, vZ f5, .int .u32 f6] ∧
        (Same B h gr ∧ DiskAt dI gr B d (σ.read slot).1 ∧ Ending.returned (.tuple #[.agg #[vZ f0, .int .u64 f1, .int .u64 f2, vZ f3, vZ f4, vZ f5, .int .u32 f6], .bool ok, vZ 0]) = .returned (.tuple #[.agg (tkV (takeF σ slot).1).toArray, .bool (takeF σ slot).2.1, vZ (takeF σ slot).2.2])) := by
    intro gq x ok hk
    exact ⟨_, _, _, _, _, _, _, cellsAt_all (vs := tkV t) (cv x), rfl, one t, wr gq (x416.trans x), fun gr er => fin t ok 0 gq gr (x416.trans x) (by rw [htk, hk]) er⟩
  refine ⟨fun h' => h'[b3]? = some (.cells (tkV t).toArray 101), c16, fun hl0 => ?_, fun hl0 => ?_⟩
  · have hl0 : ly.2 = 0 := of_decide_eq_true hl0
    refine ⟨_, _, _, _, _, tk_hd c16, (right_c (D4.ext x416) t.h (by rw [etH]; exact hls.1)).mono ?_⟩
    rintro e g17 ⟨x17, rfl⟩
    rw [hn]
    refine ⟨_, rfl, cv x17, fun hr => ⟨_, cellsAt_one (cellH_at (cv x17)), fun h1 => ⟨_, fun h' c => cellsAt_one (cellH_at c), _, _, _, _, _, tk_hd (cv x17), ?_⟩, fun h1 => ?_⟩, fun hr => ?_⟩
    · have h1 : (1 : Int) ≤ (t.size : Int) := of_decide_eq_true h1
      have hb' := hls.2 (by rw [← etH]; exact hr)
      refine (most_c t.h (by rw [etH]; exact hb'.1) (by rw [etH]; exact hb'.2) g17).mono ?_
      rintro e g18 ⟨x18, rfl⟩
      exact ⟨_, rfl, cv (x17.trans x18), done g18 (x17.trans x18) _ (by
        rw [hok]
        apply decide_eq_decide.2
        exact ⟨fun h => h.2.2.2, fun h => ⟨hl0, hr, by omega, h⟩⟩)⟩
    · have h1 : ¬ (1 : Int) ≤ (t.size : Int) := of_decide_eq_false h1
      exact done g17 x17 false (by rw [hok]; exact decide_eq_false fun h => h1 (by have := h.2.2.1; omega))
    · exact done g17 x17 false (by rw [hok]; exact decide_eq_false fun h => by rw [h.2.1] at hr; cases hr)
  · have hl0 : ¬ ly.2 = 0 := of_decide_eq_false hl0
    exact done g16 (Ext.refl _) false (by rw [hok]; exact decide_eq_false fun h => hl0 h.1)

end

end Go.Vc

/- Checkpoints: Heads and Find. -/
namespace Go.Vc
open Go Go.Proofs Go.MapKept

theorem take_err {σ : DS} {slot : Int} (h : (takeF σ slot).2.2 ≠ 0) : (takeF σ slot).2.2 = 40 := by
  unfold takeF at h ⊢
  split
  · rfl
  · rename_i h1
    rw [if_neg h1] at h
    split
    · rename_i h2
      rw [if_pos h2] at h
      exact (h rfl).elim
    · rename_i h2
      rw [if_neg h2] at h
      exact (h rfl).elim

theorem stN_length (σ : DS) : ∀ i, (stN σ i).2.length ≤ i
  | 0 => Nat.le_refl _
  | i + 1 => by
    have := stN_length σ i
    show ((stN σ i).2 ++ _).length ≤ i + 1
    rw [List.length_append]
    split
    · simp; omega
    · simp; omega

theorem flat_snoc {α : Type} (f : α → List Value) (l : List α) (a : α) : ((l ++ [a]).map f).flatten = (l.map f).flatten ++ f a := by simp

section
variable {h : Hp} {B : Nat → Prop} {d : Nat} {σ : DS}

theorem DiskAt.grown {hq hr : Hp} {B : Nat → Prop} {d : Nat} {σ : DS} {row : Option Nat} (D : DiskAt dI hq B d σ) (g : Grown hq hr row) (hrow : ∀ b, row = some b → ¬ B b) : DiskAt dI hr B d σ :=
  D.keep g.size fun b hb => g.block b (D.lt b hb) fun e => hrow b e.symm hb
theorem Same.grown {B : Nat → Prop} {h hq hr : Hp} {row : Option Nat} (y : Same B h hq) (g : Grown hq hr row) (hrow : ∀ b, row = some b → h.size ≤ b) : Same B h hr :=
  ⟨Nat.le_trans y.size g.size, fun b hb hn => (g.block b (Nat.lt_of_lt_of_le hb y.size) fun e => by have := hrow b e.symm; omega).trans (y.old b hb hn)⟩

set_option maxHeartbeats 1000000 in
/-- ckpt.newest -/
theorem newest_c (D : DiskAt dI h B d σ) (hh : Halves h) (h0 : ¬ B 0) : CallsH Tryz.prog 47 #[vP d] h fun e h' =>
    Same B h h' ∧ DiskAt dI h' B d (newestF σ).1 ∧ ∃ p c, e = .returned (.tuple #[.slice p (newestF σ).2.1.length c, vZ (newestF σ).2.2]) ∧
      Own h' h.size 101 7 (.slice p (newestF σ).2.1.length c) (newestF σ).2.1.length ((newestF σ).2.1.map tkV).flatten := by
  have nB : ∀ {x : Nat}, h.size ≤ x → ¬ B x := fun hx hb => by have := D.lt _ hb; omega
  refine V47 _ h _ ⟨false, eqv_ptr uPD _, fun hf => (by cases hf), fun _ => ?_⟩
  refine ⟨fun l hr => ∃ (i : Nat) (p : Option Addr) (c : Nat), l = [.slice p (stN σ i).2.length c, vI i] ∧ i ≤ 2 ∧ (∀ j : Nat, j < i → (takeF (stN σ j).1 j).2.2 = 0) ∧ Same B h hr ∧ DiskAt dI hr B d (stN σ i).1 ∧
      Own hr h.size 101 7 (.slice p (stN σ i).2.length c) (stN σ i).2.length ((stN σ i).2.map tkV).flatten,
    fun l _ => (2 - numAt l 1).toNat, ⟨0, none, 0, rfl, by decide, fun j hj => absurd hj (Nat.not_lt_zero j), Same.refl _ _, D, Own.nil _ _ _ _⟩, ?_⟩
  rintro p n c x hr ⟨i, p', c', hl, hi, hj, y, Di, o⟩
  have hl' := hl
  simp only [List.cons.injEq, Value.slice.injEq, Value.int.injEq, and_true, true_and] at hl'
  obtain ⟨⟨rfl, hn, rfl⟩, rfl⟩ := hl'
  clear hl
  have hlen := stN_length σ i
  refine ⟨fun hlt => ?_, fun hlt => ?_⟩
  · have hlt : i < 2 := by have := of_decide_eq_true hlt; omega
    refine (takeH_c Di (hh.same y h0) h0 (i : Int)).mono ?_
    rintro e g1 ⟨y1, D1, rfl⟩
    obtain ⟨t, ht⟩ : ∃ t, t = (takeF (stN σ i).1 i).1 := ⟨_, rfl⟩
    obtain ⟨ok, hok⟩ : ∃ ok, ok = (takeF (stN σ i).1 i).2.1 := ⟨_, rfl⟩
    obtain ⟨code, hcode⟩ : ∃ code, code = (takeF (stN σ i).1 i).2.2 := ⟨_, rfl⟩
    rw [← ht, ← hok, ← hcode]
    refine ⟨_, _, _, _, _, _, _, _, _, rfl, ?_⟩
    intro b g2 hb e2
    have x2 : Ext g1 g2 := by rw [e2]; exact Ext.push _ _
    have c2 : g2[b]? = some (.cells (tkV Tk.no).toArray 101) := by rw [e2, hb, zerosTk]; exact push_last
    clear e2
    obtain ⟨q1, q2, q3, q4⟩ := tk_set c2 t
    refine ⟨infoTk, rfl, q2, q3, ?_⟩
    intro g3 e3
    have x3 : Ext g1 g3 := by rw [e3]; exact x2.over (setsH_same (B := fun x => x = b) rfl) fun x hx => by omega
    have c3 : g3[b]? = some (.cells (tkV t).toArray 101) := by rw [e3]; exact q4
    clear e3 q1 q2 q3 q4 c2 x2
    have y3 : Same B h g3 := (y.trans y1 fun _ h _ => h).trans (x3.same B) fun _ h _ => h
    have D3 : DiskAt dI g3 B d (stN σ (i + 1)).1 := D1.ext x3
    have o3 : Own g3 h.size 101 7 (.slice p n c) n ((stN σ i).2.map tkV).flatten := by
      rw [hn]
      rw [hn] at *
      exact (o.keep fun b hb => y1.old b (o.lt hb).2 (nB (o.lt hb).1)).ext x3
    refine ⟨fun hne => ?_, fun hz => ?_⟩
    · have hne : code ≠ 0 := of_decide_eq_true hne
      have e1 : newestF σ = ((stN σ (i + 1)).1, [], code) := by
        unfold newestF
        have : i = 0 ∨ i = 1 := by omega
        rcases this with rfl | rfl
        · rw [if_pos (by rw [hcode] at hne; exact hne), hcode]; rfl
        · have h00 := hj 0 (by decide)
          rw [if_neg (by simpa using h00), if_pos (by rw [hcode] at hne; exact hne), hcode]; rfl
      rw [e1]
      exact ⟨y3, D3, none, 0, rfl, Own.nil _ _ _ _⟩
    · have hz : ¬ code ≠ 0 := of_decide_eq_false hz
      have hj' : ∀ j : Nat, j < i + 1 → (takeF (stN σ j).1 j).2.2 = 0 := fun j hji => by
        by_cases hjj : j < i
        · exact hj j hjj
        · have : j = i := by omega
          subst this
          rw [← hcode]; omega
      refine ⟨fun htrue => ?_, fun hfalse => ?_⟩
      · refine ⟨_, _, _, _, _, _, _, cellsAt_all (vs := tkV t) c3, ?_⟩
        have e2 : (stN σ (i + 1)).2 = (stN σ i).2 ++ [t] := by
          show _ ++ _ = _
          rw [if_pos (by rw [← hok]; exact htrue), ht]
        refine semH_pushS rowTk (by decide) o3 (r := tkV t) rfl rfl (by decide) (by simp [tkV, Value.oneCell']) (by omega) (by simp only [maxLen]; omega) y3.size fun p4 c4 g4 o4 gr4 _ _ => ?_
        have hl2 : n + 1 = (stN σ (i + 1)).2.length := by rw [e2, List.length_append, ← hn]; rfl
        refine ⟨_, incI (by omega), ⟨i + 1, p4, c4, by rw [hl2], hlt, hj', y3.grown gr4 fun b hb => (o3.lt hb).1, D3.grown gr4 fun b hb => nB (o3.lt hb).1, ?_⟩, by simp only [numAt]; omega⟩
        rw [← hl2, e2, flat_snoc]
        exact o4
      · have e2 : (stN σ (i + 1)).2 = (stN σ i).2 := by
          show _ ++ _ = _
          rw [if_neg (by rw [← hok, hfalse]; simp), List.append_nil]
        refine ⟨_, incI (by omega), ⟨i + 1, p, c, by rw [e2, hn], hlt, hj', y3, D3, ?_⟩, by simp only [numAt]; omega⟩
        rw [e2, ← hn]
        exact o3
  · have hi2 : i = 2 := by have := of_decide_eq_false hlt; omega
    subst hi2
    have e1 : newestF σ = ((stN σ 2).1, sortT (stN σ 2).2, 0) := by
      unfold newestF
      have h00 := hj 0 (by decide)
      have h01 := hj 1 (by decide)
      rw [if_neg (by simpa using h00), if_neg (by simpa using h01)]
    rw [e1]
    obtain ⟨l, hl⟩ : ∃ l, l = (stN σ 2).2 := ⟨_, rfl⟩
    rw [← hl] at o hn hlen ⊢
    rcases l with _ | ⟨a, _ | ⟨b, _ | ⟨_, _⟩⟩⟩
    · have hn : n = 0 := hn
      subst hn
      exact ⟨false, ⟨fun hf => (by simp at hf), fun _ => ⟨rfl, rfl⟩⟩, fun hf => (by cases hf), fun _ => ⟨y, Di, p, c, rfl, o⟩⟩
    · have hn : n = 1 := hn
      subst hn
      exact ⟨false, ⟨fun hf => (by simp at hf), fun _ => ⟨rfl, rfl⟩⟩, fun hf => (by cases hf), fun _ => ⟨y, Di, p, c, rfl, o⟩⟩
    · have hn : n = 2 := hn
      subst hn
      have sg : SegS hr p 2 7 [tkV a, tkV b] := o.segS (rows := [tkV a, tkV b]) (by simp [tkV]) rfl
      obtain ⟨ba, oa, pa, za, la, ca⟩ := sg.get (i := 0) (by simp)
      obtain ⟨bb, ob, pb, zb, lb, cb⟩ := sg.get (i := 1) (by simp)
      obtain ⟨ba', oa', pa', za', la', ca'⟩ := sg.at (i := 0) (by simp)
      obtain ⟨bb', ob', pb', zb', lb', cb'⟩ := sg.at (i := 1) (by simp)
      refine ⟨decide ((a.h.gen : Int) < (b.h.gen : Int)), ⟨fun _ => ⟨ba, oa, pa, za, la, (a.h.gen : Int), ca 1 _ rfl, bb, ob, pb, zb, lb, (b.h.gen : Int), cb 1 _ rfl, rfl, rfl⟩, fun hf => (by simp at hf)⟩, fun hB => ?_, fun hB => ?_⟩
      · have hB : (a.h.gen : Int) < (b.h.gen : Int) := of_decide_eq_true hB
        have es : sortT [a, b] = [b, a] := by show (if a.h.gen < b.h.gen then _ else _) = _; rw [if_pos (by omega)]
        rw [es]
        refine ⟨bb', ob', pb', zb', lb', _, _, _, _, _, _, _, cb', ba', oa', pa', za', la', _, _, _, _, _, _, _, ca', ?_⟩
        have o' : Own hr h.size 101 7 (.slice p 2 c) 2 (tkV a ++ tkV b) := by simpa using o
        refine o'.storeS (i := 0) (vs := tkV b) (by decide) rfl (by simp [tkV, Value.oneCell']) fun g1 o1 gr1 s1 => ?_
        rw [show 0 * 7 = 0 from rfl, layC_first (x := tkV a) (y := tkV b) (v := tkV b) rfl] at o1
        refine o1.storeS (i := 1) (vs := tkV a) (by decide) rfl (by simp [tkV, Value.oneCell']) fun g2 o2 gr2 s2 => ?_
        rw [show 1 * 7 = 7 from rfl, layC_second (x := tkV b) (y := tkV b) (v := tkV a) (k := 7) rfl rfl] at o2
        refine ⟨(y.grown gr1 fun b hb => (o'.lt hb).1).grown gr2 fun b hb => (o1.lt hb).1, (Di.grown gr1 fun b hb => nB (o'.lt hb).1).grown gr2 fun b hb => nB (o1.lt hb).1, p, c, rfl, ?_⟩
        have : ([b, a].map tkV).flatten = tkV b ++ tkV a := by simp
        rw [this]
        exact o2
      · have hB : ¬ (a.h.gen : Int) < (b.h.gen : Int) := of_decide_eq_false hB
        have es : sortT [a, b] = [a, b] := by show (if a.h.gen < b.h.gen then _ else _) = _; rw [if_neg (by omega)]
        rw [es]
        exact ⟨y, Di, p, c, rfl, o⟩
    · simp at hlen

theorem newest_nil (h : Hp) : CallsH Tryz.prog 47 #[.pointer none] h fun e h' => h' = h ∧ e = .returned (.tuple #[.slice none 0 0, vZ 1]) :=
  V47 _ h _ ⟨true, eqv_nil uPD, fun _ => ⟨rfl, rfl⟩, fun hf => (by cases hf)⟩

/-- ckpt.Heads -/
theorem heads_c (D : DiskAt dI h B d σ) (hh : Halves h) (h0 : ¬ B 0) : CallsH Tryz.prog 38 #[vP d] h fun e h' =>
    Same B h h' ∧ DiskAt dI h' B d (newestF σ).1 ∧ ∃ p c, e = .returned (.tuple #[.slice p (newestF σ).2.1.length c, vZ (newestF σ).2.2]) ∧
      Own h' h.size 39 5 (.slice p (newestF σ).2.1.length c) (newestF σ).2.1.length (((newestF σ).2.1.map (·.h)).map hdV).flatten := by
  have nB : ∀ {x : Nat}, h.size ≤ x → ¬ B x := fun hx hb => by have := D.lt _ hb; omega
  refine V38 _ h _ ((newest_c D hh h0).mono ?_)
  rintro e g ⟨y, Dg, q, cq, rfl, oq⟩
  obtain ⟨l, hl⟩ : ∃ l, l = (newestF σ).2.1 := ⟨_, rfl⟩
  have hlen : l.length ≤ 2 := by
    rw [hl]
    unfold newestF
    split
    · exact Nat.zero_le _
    · split
      · exact Nat.zero_le _
      · have := stN_length σ 2
        show (sortT (stN σ 2).2).length ≤ 2
        unfold sortT
        split
        · split <;> exact Nat.le_refl _
        · exact this
  rw [← hl] at oq ⊢
  refine ⟨_, _, _, _, rfl, ?_⟩
  have sg : SegS g q l.length 7 (l.map tkV) := oq.segS (by intro r hr; obtain ⟨t, _, rfl⟩ := List.mem_map.1 hr; rfl) (by simp)
  have s0 := y.size
  refine ⟨fun ll hr => ∃ (i : Nat) (p : Option Addr) (c : Nat), ll = [.slice p i c, vI i] ∧ i ≤ l.length ∧ Ext g hr ∧ Own hr g.size 39 5 (.slice p i c) i (((l.take i).map (·.h)).map hdV).flatten,
    fun ll _ => (l.length - numAt ll 1).toNat, ⟨0, none, 0, rfl, Nat.zero_le _, Ext.refl _, Own.nil _ _ _ _⟩, ?_⟩
  rintro p n c x hr ⟨i, p', c', hll, hi, xr, o⟩
  cases hll
  refine ⟨fun hlt => ?_, fun hlt => ?_⟩
  · have hlt : n < l.length := by have := of_decide_eq_true hlt; omega
    obtain ⟨b, ob, e1, e2, e3, e4⟩ := (sg.ext xr).at (i := n) (by simpa using hlt)
    have e4 : cellsAt hr b (ob + Int.toNat (n : Int) * 7) (tkV l[n]) := by simpa using e4
    refine ⟨b, ob, e1, e2, e3, _, _, _, _, _, _, _, e4, ?_⟩
    intro b1 g2 hb1 e5
    have x2 : Ext hr g2 := by rw [e5]; exact Ext.push _ _
    have c2 : g2[b1]? = some (.cells (tkV Tk.no).toArray 101) := by rw [e5, hb1, zerosTk]; exact push_last
    clear e5
    obtain ⟨q1, q2, q3, q4⟩ := tk_set c2 l[n]
    refine ⟨infoTk, rfl, q2, q3, ?_⟩
    intro g3 e6
    have x3 : Ext hr g3 := by rw [e6]; exact x2.over (setsH_same (B := fun x => x = b1) rfl) fun x hx => by omega
    have c3 : g3[b1]? = some (.cells (tkV l[n]).toArray 101) := by rw [e6]; exact q4
    refine ⟨_, _, _, _, _, tk_hd c3, ?_⟩
    have o3 := o.ext x3
    refine semH_pushS rowHd (by decide) o3 (r := hdV l[n].h) rfl rfl (by decide) (by simp [hdV, Value.oneCell']) (by omega) (by simp only [maxLen]; omega) (xr.trans x3).size fun p4 c4 g4 o4 gr4 _ _ => ?_
    refine ⟨_, incI (by omega), ⟨n + 1, p4, c4, rfl, hlt, (xr.trans x3).grown gr4 fun b hb => (o3.lt hb).1, ?_⟩, by simp only [numAt]; omega⟩
    rw [take_one hlt, List.map_append, List.map_append, List.flatten_append]
    have : (List.map hdV (List.map (fun x => x.h) [l[n]])).flatten = hdV l[n].h := by simp
    rw [this]
    exact o4
  · have hn : n = l.length := by have := of_decide_eq_false hlt; omega
    subst hn
    rw [List.take_length] at o
    exact ⟨(y.trans (xr.same B) fun _ h _ => h), Dg.ext xr, p, c, rfl, o.rebase fun b hb => by have := (o.lt hb).1; omega⟩

theorem heads_nil (h : Hp) : CallsH Tryz.prog 38 #[.pointer none] h fun e h' => h' = h ∧ e = .returned (.tuple #[.slice none 0 0, vZ 1]) := by
  refine V38 _ h _ ((newest_nil h).mono ?_)
  rintro e g ⟨rfl, rfl⟩
  refine ⟨_, _, _, _, rfl, fun ll hr => ll = [.slice none 0 0, vI 0] ∧ hr = g, fun _ _ => 0, ⟨rfl, rfl⟩, ?_⟩
  rintro p n c x hr ⟨hll, rfl⟩
  cases hll
  exact ⟨fun hf => (by simp at hf), fun _ => ⟨rfl, rfl⟩⟩

end

end Go.Vc

/- Checkpoints: Find. -/
namespace Go.Vc
open Go Go.Proofs Go.MapKept

/-! ## What is told -/

/-- Is a frame the piece of an image that is wanted? -/
def Frm.isPiece (f : Frm) (gen k left : Nat) : Prop := f.kind = 2 ∧ f.number = gen ∧ f.index = (k : Int) ∧ f.body.size = min left 491
instance (f : Frm) (gen k left : Nat) : Decidable (f.isPiece gen k left) := inferInstanceAs (Decidable (_ ∧ _ ∧ _ ∧ _))
def gath (t : Tk) : Nat → Nat → DS → List UInt8 → DS × List UInt8 × Int
  | 0, _, σ, acc => (σ, acc, 0)
  | fuel + 1, k, σ, acc =>
    if acc.length < t.size then
      if (getF σ (placeH t.h + k)).2 = 40 then ((σ.read (placeH t.h + k)).1, [], 40)
      else if (getF σ (placeH t.h + k)).2 ≠ 0 ∨ ¬ (getF σ (placeH t.h + k)).1.isPiece t.h.gen k (t.size - acc.length) then ((σ.read (placeH t.h + k)).1, [], 180)
      else gath t fuel (k + 1) (σ.read (placeH t.h + k)).1 (acc ++ bl (getF σ (placeH t.h + k)).1.body)
    else (σ, acc, 0)
def findT (σ : DS) (t : Tk) : DS × Hd × ByteArray × Int :=
  if (gath t (t.size + 1) 0 σ []).2.2 ≠ 0 then ((gath t (t.size + 1) 0 σ []).1, Hd.no, ⟨#[]⟩, (gath t (t.size + 1) 0 σ []).2.2)
  else if (sumB [tx (gath t (t.size + 1) 0 σ []).2.1]).toNat ≠ t.sum then ((gath t (t.size + 1) 0 σ []).1, Hd.no, ⟨#[]⟩, 180)
  else ((gath t (t.size + 1) 0 σ []).1, t.h, tx (gath t (t.size + 1) 0 σ []).2.1, 0)
def findL (σ : DS) : List Tk → DS × Hd × ByteArray × Int
  | [] => (σ, Hd.no, ⟨#[]⟩, 200)
  | t :: _ => findT σ t
def findF (σ : DS) : DS × Hd × ByteArray × Int :=
  if (newestF σ).2.2 ≠ 0 then ((newestF σ).1, Hd.no, ⟨#[]⟩, (newestF σ).2.2) else findL (newestF σ).1 (newestF σ).2.1

/-- What is known of a head that can be taken. -/
structure Tk.Fit (t : Tk) : Prop where
  s : t.h.slot = 0 ∨ t.h.slot = 1
  l0 : 1 ≤ t.h.ls
  l1 : t.h.ls ≤ 2046
  n0 : 1 ≤ t.size
  n1 : t.size ≤ 2097152
  n2 : (t.size : Int) ≤ 491 * t.h.ls
  m : t.sum < 4294967296

theorem tkOk_fit {n : Nat} {L : List UInt8} {t : Tk} (h : tkOk n L t = true) (hm : t.sum < 4294967296) : t.Fit := by
  unfold tkOk at h
  obtain ⟨h1, h2, h3, h4⟩ := of_decide_eq_true h
  obtain ⟨r1, r2, r3, r4, r5, r6, r7, r8⟩ := rightH_ok h2
  unfold mostH at h4
  exact ⟨r6, r2, r3, h3, by omega, by omega, hm⟩

theorem take_fit {σ : DS} {slot : Int} (h : (takeF σ slot).2.1 = true) : (takeF σ slot).1.Fit := by
  unfold takeF at h ⊢
  split
  · rename_i h1
    rw [if_pos h1] at h; cases h
  · rename_i h1
    rw [if_neg h1] at h
    split
    · rename_i h2
      rw [if_pos h2] at h; cases h
    · rename_i h2
      rw [if_neg h2] at h
      exact tkOk_fit h (numL_small (k := 4) (by rw [List.length_take]; omega))

theorem stN_fit (σ : DS) : ∀ i, ∀ t ∈ (stN σ i).2, t.Fit
  | 0, t, ht => by cases ht
  | i + 1, t, ht => by
    have ht : t ∈ (stN σ i).2 ++ (if (takeF (stN σ i).1 i).2.1 = true then [(takeF (stN σ i).1 i).1] else []) := ht
    rcases List.mem_append.1 ht with h | h
    · exact stN_fit σ i t h
    · split at h
      · rename_i hk
        rw [List.mem_singleton.1 h]
        exact take_fit hk
      · cases h

theorem sortT_mem {l : List Tk} {t : Tk} (h : t ∈ sortT l) : t ∈ l := by
  unfold sortT at h
  split at h
  · split at h <;> simp at h ⊢ <;> rcases h with h | h <;> simp [h]
  · exact h

theorem newest_fit {σ : DS} {t : Tk} (h : t ∈ (newestF σ).2.1) : t.Fit := by
  unfold newestF at h
  split at h
  · cases h
  · split at h
    · cases h
    · exact stN_fit σ 2 t (sortT_mem h)

/-! ## How -/

/-- Rows of bytes may have grown; all else is as it was. -/
def KcE (e : TypeId) (hr hs : Hp) : Prop := ∀ (y : Nat) (vs : Array Value) (t : TypeId), hr[y]? = some (.cells vs t) → t ≠ e → hs[y]? = some (.cells vs t)
theorem KcE.ext {e : TypeId} {hr hs : Hp} (x : Ext hr hs) : KcE e hr hs := fun y _ _ h _ => (x.old y (Array.getElem?_eq_some_iff.1 h).1).trans h
theorem KcE.grown {e : TypeId} {hr hs : Hp} {base n : Nat} {v : Value} {xs : List Value} (o : Own hr base e 1 v n xs) (g : Grown hr hs v.ownBlock) : KcE e hr hs := fun y vs t h ht => by
  refine (g.block y (Array.getElem?_eq_some_iff.1 h).1 fun e => ?_).trans h
  obtain ⟨cur, hc⟩ := o.blk e.symm
  rw [h] at hc
  cases hc
  exact ht rfl

section
variable {h : Hp} {B : Nat → Prop} {d : Nat} {σ : DS}

set_option maxHeartbeats 1000000 in
/-- ckpt.Find -/
theorem find_c (D : DiskAt dI h B d σ) (hh : Halves h) (h0 : ¬ B 0) : CallsH Tryz.prog 18 #[vP d] h fun e h' =>
    Same B h h' ∧ DiskAt dI h' B d (findF σ).1 ∧ e = .returned (.tuple #[.agg (hdV (findF σ).2.1).toArray, .string (findF σ).2.2.1, vZ (findF σ).2.2.2]) := by
  have nB : ∀ {x : Nat}, h.size ≤ x → ¬ B x := fun hx hb => by have := D.lt _ hb; omega
  refine V18 _ h _ ?_
  intro b g1 hb e1
  have x1 : Ext h g1 := by rw [e1]; exact Ext.push _ _
  have cb1 : g1[b]? = some (.cells (hdV Hd.no).toArray 39) := by rw [e1, hb, zerosHead]; exact push_last
  clear e1
  have lb1 := (Array.getElem?_eq_some_iff.1 cb1).1
  have hbh : h.size ≤ b := by omega
  refine ⟨infoHead, (newest_c (D.ext x1) (hh.ext x1) h0).mono ?_⟩
  rintro e g2 ⟨y2, D2, q, cq, rfl, oq⟩
  have cb2 := (y2.old b lb1 (nB hbh)).trans cb1
  have y02 := (x1.same B).trans y2 fun _ h _ => h
  -- the end: the result is set
  have fin : ∀ (H : Hd) (s : ByteArray) (code : Int) (τ : DS) (gq gr : Hp), Same B h gq → DiskAt dI gq B d τ → gq[b]? = some (.cells (hdV Hd.no).toArray 39) → findF σ = (τ, H, s, code) → gr = setsH gq b 0 (hdV H) →
      ∃ f0 f1 f2 f3 f4 : Int, cellsAt gr b 0 [vZ f0, .int .u64 f1, .int .u64 f2, vZ f3, vZ f4] ∧
        (Same B h gr ∧ DiskAt dI gr B d (findF σ).1 ∧ Ending.returned (.tuple #[.agg #[vZ f0, .int .u64 f1, .int .u64 f2, vZ f3, vZ f4], .string s, vZ code]) = .returned (.tuple #[.agg (hdV (findF σ).2.1).toArray, .string (findF σ).2.2.1, vZ (findF σ).2.2.2])) := by
    intro H s code τ gq gr y Dq cq ef er
    have cr := (hd_set cq H).2.2.2
    rw [← er] at cr
    have ys : Same (fun x => x = b) gq gr := by rw [er]; exact setsH_same rfl
    refine ⟨_, _, _, _, _, cellsAt_all (vs := hdV H) cr, y.trans ys fun x hx hl => by omega, ?_, by rw [ef]; rfl⟩
    rw [ef]
    exact Dq.other ys fun x hx e => nB hbh (e ▸ hx)
  have one : ∀ H : Hd, ∀ v ∈ hdV H, v.oneCell' = true := fun H => by simp [hdV, Value.oneCell']
  have wr : ∀ {gq : Hp}, gq[b]? = some (.cells (hdV Hd.no).toArray 39) → wrAt gq b 0 5 := fun c => (hd_set c Hd.no).2.2.1
  obtain ⟨l, hl⟩ : ∃ l, l = (newestF σ).2.1 := ⟨_, rfl⟩
  obtain ⟨code, hcode⟩ : ∃ code, code = (newestF σ).2.2 := ⟨_, rfl⟩
  have hfit : ∀ t ∈ l, t.Fit := fun t ht => newest_fit (by rw [← hl]; exact ht)
  rw [← hl] at oq
  rw [← hl, ← hcode]
  refine ⟨_, _, _, _, rfl, fun hne => ?_, fun hz => ?_⟩
  · have hne : code ≠ 0 := of_decide_eq_true hne
    refine ⟨rfl, one Hd.no, wr cb2, fun gr er => ?_⟩
    exact fin Hd.no ⟨#[]⟩ code _ g2 gr y02 D2 cb2 (by unfold findF; rw [← hcode, if_pos hne]) er
  have hz : ¬ code ≠ 0 := of_decide_eq_false hz
  have ef : findF σ = findL (newestF σ).1 l := by
    unfold findF
    rw [← hcode, if_neg hz, hl]
  refine ⟨fun hn0 => ?_, fun hn0 => ?_⟩
  · have hn0 : l = [] := List.eq_nil_of_length_eq_zero (by have := of_decide_eq_true hn0; omega)
    refine ⟨rfl, one Hd.no, wr cb2, fun gr er => ?_⟩
    exact fin Hd.no ⟨#[]⟩ 200 _ g2 gr y02 D2 cb2 (by rw [ef, hn0]; rfl) er
  have hn0 : l ≠ [] := fun h => by rw [h] at hn0; simp at hn0
  obtain ⟨t, l', hlt⟩ := List.exists_cons_of_ne_nil hn0
  have hlpos : 0 < l.length := by rw [hlt]; simp
  have ft := hfit t (by rw [hlt]; simp)
  have ef : findF σ = findT (newestF σ).1 t := by rw [ef, hlt]; rfl
  obtain ⟨σ0, hσ0⟩ : ∃ σ0, σ0 = (newestF σ).1 := ⟨_, rfl⟩
  rw [← hσ0] at ef D2
  have sg : SegS g2 q l.length 7 (l.map tkV) := oq.segS (by intro r hr; obtain ⟨t, _, rfl⟩ := List.mem_map.1 hr; rfl) (by simp)
  obtain ⟨bq, ob, p1, p2, p3, p4⟩ := sg.at (i := 0) (by simpa using hlpos)
  have et : (l.map tkV)[0]'(by simpa using hlpos) = tkV t := by simp [hlt]
  rw [et] at p4
  refine ⟨bq, ob, p1, p2, p3, _, _, _, _, _, _, _, p4, ?_⟩
  clear et p1 p2 p3 p4 sg oq bq ob hn0 hfit
  intro b2 g3 hb2 e3
  have x3 : Ext g2 g3 := by rw [e3]; exact Ext.push _ _
  have c3 : g3[b2]? = some (.cells (tkV Tk.no).toArray 101) := by rw [e3, hb2, zerosTk]; exact push_last
  clear e3
  obtain ⟨q1, q2, q3, q4⟩ := tk_set c3 t
  refine ⟨infoTk, rfl, q2, q3, ?_⟩
  intro g4 e4
  have x4 : Ext g2 g4 := by rw [e4]; exact x3.over (setsH_same (B := fun x => x = b2) rfl) fun x hx => by omega
  have c4 : g4[b2]? = some (.cells (tkV t).toArray 101) := by rw [e4]; exact q4
  clear e4 q1 q2 q3 q4 c3 x3
  have hb2h : h.size ≤ b2 := by have := y02.size; omega
  refine ⟨_, cellsAt_one (cellH_at c4), semH_make rowB zerosB (l := 0) (c := t.size) (Nat.zero_le _) (by have := ft.n1; omega) (by have := ft.n1; simp only [maxLen]; omega) ⟨_, _, _, rfl, ?_⟩⟩
  have x5 : Ext g4 (g4.push (.cells (Array.replicate t.size (.int .u8 0)) 5)) := Ext.push _ _
  have o5 : Own (g4.push (.cells (Array.replicate t.size (.int .u8 0)) 5)) h.size 5 1 (.slice (some ⟨g4.size, 0, none⟩) 0 t.size) 0 (List.replicate 0 (.int .u8 0)) := own_made (z := .int .u8 0) (l := 0) (Nat.zero_le _) (by have := ft.n1; simp only [maxLen]; omega) (by have := x4.size; have := y02.size; omega)
  generalize g4.push (.cells (Array.replicate t.size (.int .u8 0)) 5) = g5 at x5 o5
  have x25 := x4.trans x5
  have lt := ft.n1
  have ln := ft.n0
  have hpl : 0 ≤ placeH t.h ∧ placeH t.h ≤ 100000 := by
    have := ft.s; have := ft.l0; have := ft.l1
    unfold placeH
    rcases ft.s with e | e <;> rw [e] <;> omega
  refine ⟨fun ll hr => ∃ (k : Nat) (p : Option Addr) (c : Nat) (τ : DS) (acc : List UInt8), ll = [.slice p acc.length c, vI k] ∧ acc.length = min (491 * k) t.size ∧ (0 < k → 491 * (k - 1) < t.size) ∧ Same B h hr ∧ DiskAt dI hr B d τ ∧ hr[b]? = some (.cells (hdV Hd.no).toArray 39) ∧ hr[b2]? = some (.cells (tkV t).toArray 101) ∧
      Own hr h.size 5 1 (.slice p acc.length c) acc.length (byteVs acc) ∧ gath t (t.size + 1) 0 σ0 [] = gath t (t.size + 1 - k) k τ acc,
    fun ll _ => t.size - (match ll with | .slice _ n _ :: _ => n | _ => 0), ⟨0, _, _, σ0, [], rfl, by simp, by omega, (y02.trans (x25.same B) fun _ h _ => h), D2.ext x25, (x25.old b (Array.getElem?_eq_some_iff.1 cb2).1).trans cb2, (x5.old b2 (Array.getElem?_eq_some_iff.1 c4).1).trans c4, o5, rfl⟩, ?_⟩
  rintro p n c kx hr ⟨k, p', c', τ, acc, hll, hacc, hk, y, Dτ, cb, ct, o, hg⟩
  have hll' := hll
  simp only [List.cons.injEq, Value.slice.injEq, Value.int.injEq, and_true, true_and] at hll'
  obtain ⟨⟨rfl, hn, rfl⟩, rfl⟩ := hll'
  subst hn
  have hklt : k ≤ t.size := by
    by_cases h0 : 0 < k
    · have := hk h0; omega
    · omega
  refine ⟨_, cellsAt_one (cellH_at ct), fun hlt' => ?_, fun hlt' => ?_⟩
  · have hlt' : acc.length < t.size := by have := of_decide_eq_true hlt'; omega
    have e491 : acc.length = 491 * k := by omega
    refine ⟨_, _, _, _, _, tk_hd ct, (place_c t.h ft.s (by have := ft.l0; omega) (by have := ft.l1; omega) hr).mono ?_⟩
    rintro e g6 ⟨x6, rfl⟩
    refine ⟨_, rfl, _, wrapI64 (by omega) (by omega), (get_c (Dτ.ext x6) (hh.same (y.trans (x6.same B) fun _ h _ => h) h0) h0 (placeH t.h + k)).mono ?_⟩
    rintro e g7 ⟨y7, D7, rfl⟩
    obtain ⟨f, hf⟩ : ∃ f, f = (getF τ (placeH t.h + k)).1 := ⟨_, rfl⟩
    obtain ⟨fc, hfc⟩ : ∃ fc, fc = (getF τ (placeH t.h + k)).2 := ⟨_, rfl⟩
    rw [← hf, ← hfc]
    refine ⟨_, _, _, _, _, rfl, ?_⟩
    intro b3 g8 hb3 e8
    have x8 : Ext g7 g8 := by rw [e8]; exact Ext.push _ _
    have c8 : g8[b3]? = some (.cells (frmV Frm.no).toArray 95) := by rw [e8, hb3, zerosFrame]; exact push_last
    clear e8
    obtain ⟨q1, q2, q3, q4⟩ := frm_set c8 f
    refine ⟨infoFrame, rfl, q2, q3, ?_⟩
    intro g9 e9
    have x9 : Ext g7 g9 := by rw [e9]; exact x8.over (setsH_same (B := fun x => x = b3) rfl) fun x hx => by omega
    have cf : g9[b3]? = some (.cells (frmV f).toArray 95) := by rw [e9]; exact q4
    clear e9 q1 q2 q3 q4 c8 x8
    have K : ∀ {x : Nat} {vs : Array Value} {ty : TypeId}, h.size ≤ x → hr[x]? = some (.cells vs ty) → g9[x]? = some (.cells vs ty) := fun {x _ _} hx c => by
      have l0 := (Array.getElem?_eq_some_iff.1 c).1
      have l6 := x6.size
      have l7 := y7.size
      exact (x9.old x (by omega)).trans ((y7.old x (by omega) (nB hx)).trans ((x6.old x l0).trans c))
    have cb9 := K hbh cb
    have ct9 := K hb2h ct
    have y9 : Same B h g9 := ((y.trans (x6.same B) fun _ h _ => h).trans y7 fun _ h _ => h).trans (x9.same B) fun _ h _ => h
    have D9 := D7.ext x9
    have o9 : Own g9 h.size 5 1 (.slice p acc.length c) acc.length (byteVs acc) := by
      refine o.keep fun x hx => ?_
      have lx := o.lt hx
      have l6 := x6.size
      have l7 := y7.size
      exact (x9.old x (by omega)).trans ((y7.old x (by omega) (nB lx.1)).trans (x6.old x lx.2))
    have hg' : gath t (t.size + 1) 0 σ0 [] = if fc = 40 then ((τ.read (placeH t.h + k)).1, [], 40) else if fc ≠ 0 ∨ ¬ f.isPiece t.h.gen k (t.size - acc.length) then ((τ.read (placeH t.h + k)).1, [], 180) else gath t (t.size - k) (k + 1) (τ.read (placeH t.h + k)).1 (acc ++ bl f.body) := by
      rw [hg, show t.size + 1 - k = (t.size - k) + 1 by omega]
      show (if acc.length < t.size then _ else _) = _
      rw [if_pos hlt', ← hfc, ← hf]
    refine ⟨fun h40 => ?_, fun h40 => ?_⟩
    · have h40 : fc = 40 := of_decide_eq_true h40
      rw [if_pos h40] at hg'
      refine ⟨rfl, one Hd.no, wr cb9, fun gr er => ?_⟩
      rw [h40]
      exact fin Hd.no ⟨#[]⟩ 40 _ g9 gr y9 D9 cb9 (by rw [ef]; unfold findT; rw [hg', if_pos (by show (40 : Int) ≠ 0; decide)]) er
    have h40 : ¬ fc = 40 := of_decide_eq_false h40
    rw [if_neg h40] at hg'
    refine ⟨decide (fc ≠ 0 ∨ ¬ f.isPiece t.h.gen k (t.size - acc.length)), ⟨fun k0 => ⟨rfl, ?_⟩, fun k0 => ⟨_, cellsAt_one (cellH_at cf), fun k1 => ⟨rfl, ?_⟩, fun k1 => ⟨_, cellsAt_one (cellH_at cf), _, cellsAt_one (cellH_at ct9), fun k2 => ⟨rfl, ?_⟩, fun k2 => ⟨_, cellsAt_one (cellH_at cf), fun k3 => ⟨rfl, ?_⟩, fun k3 => ⟨_, cellsAt_one (cellH_at cf), _, cellsAt_one (cellH_at ct9), ((t.size - acc.length : Nat) : Int), by rw [wrapI64] <;> omega, rfl, ?_⟩⟩⟩⟩⟩, fun hB => ?_, fun hB => ?_⟩
    · exact decide_eq_true (p := fc ≠ 0 ∨ ¬ f.isPiece t.h.gen k (t.size - acc.length)) (.inl (of_decide_eq_true k0))
    · have k1 : f.kind ≠ 2 := of_decide_eq_true k1
      exact decide_eq_true (p := fc ≠ 0 ∨ ¬ f.isPiece t.h.gen k (t.size - acc.length)) (.inr fun hh => k1 hh.1)
    · have k2 : (f.number : Int) ≠ (t.h.gen : Int) := of_decide_eq_true k2
      exact decide_eq_true (p := fc ≠ 0 ∨ ¬ f.isPiece t.h.gen k (t.size - acc.length)) (.inr fun hh => k2 (by rw [hh.2.1]))
    · have k3 : f.index ≠ (k : Int) := of_decide_eq_true k3
      exact decide_eq_true (p := fc ≠ 0 ∨ ¬ f.isPiece t.h.gen k (t.size - acc.length)) (.inr fun hh => k3 hh.2.2.1)
    · have k0 : ¬ fc ≠ 0 := of_decide_eq_false k0
      have k1 : ¬ f.kind ≠ 2 := of_decide_eq_false k1
      have k2 : ¬ (f.number : Int) ≠ (t.h.gen : Int) := of_decide_eq_false k2
      have k3 : ¬ f.index ≠ (k : Int) := of_decide_eq_false k3
      apply decide_eq_decide.2
      constructor
      · rintro (hh | hh)
        · exact (k0 hh).elim
        · intro h20
          exact hh ⟨by omega, by omega, by omega, by omega⟩
      · intro hh
        exact .inr fun h3 => hh (by have := h3.2.2.2; omega)
    · have hB := of_decide_eq_true hB
      rw [if_pos hB] at hg'
      refine ⟨rfl, one Hd.no, wr cb9, fun gr er => ?_⟩
      exact fin Hd.no ⟨#[]⟩ 180 _ g9 gr y9 D9 cb9 (by rw [ef]; unfold findT; rw [hg', if_pos (by show (180 : Int) ≠ 0; decide)]) er
    · have hB := of_decide_eq_false hB
      rw [if_neg hB] at hg'
      have hpc : f.isPiece t.h.gen k (t.size - acc.length) := Decidable.of_not_not fun hh => hB (.inr hh)
      have hbs := hpc.2.2.2
      have hbl : (bl f.body).length = f.body.size := bl_length _
      refine ⟨_, cellsAt_one (cellH_at cf), semH_appendStr rowB uStr zeroB o9 (s := f.body) (by simp only [maxLen]; omega) (by omega) y9.size fun p4 c4 g10 o10 gr10 _ _ => ?_⟩
      have K10 : KcE 5 g9 g10 := KcE.grown o9 gr10
      have elen : (acc ++ bl f.body).length = acc.length + f.body.size := by rw [List.length_append, hbl]
      refine ⟨_, incI (by omega), ⟨k + 1, p4, c4, _, acc ++ bl f.body, by rw [elen], by rw [elen, hbs]; omega, fun _ => by simp only [Nat.add_sub_cancel]; omega, y9.grown gr10 fun x hx => (o9.lt hx).1, D9.grown gr10 fun x hx => nB (o9.lt hx).1, K10 _ _ _ cb9 (by decide), K10 _ _ _ ct9 (by decide), ?_, ?_⟩, by simp only; omega⟩
      · rw [elen]
        have : byteVs (acc ++ bl f.body) = byteVs acc ++ byteVs f.body.data.toList := by simp [byteVs, bl]
        rw [this]
        exact o10
      · rw [hg', show t.size + 1 - (k + 1) = t.size - k by omega]
  · have hge : ¬ acc.length < t.size := by have := of_decide_eq_false hlt'; omega
    have hg' : gath t (t.size + 1) 0 σ0 [] = (τ, acc, 0) := by
      rw [hg, show t.size + 1 - k = (t.size - k) + 1 by omega]
      show (if acc.length < t.size then _ else _) = _
      rw [if_neg hge]
    have hsz : (tx acc).size = acc.length := tx_size _
    refine semH_toText uBs uB uStr (t := tx acc) (by rw [show (tx acc).data.toList = acc from bl_tx _]; exact o.seg) ⟨_, rfl, ?_⟩
    refine ⟨fun h' => h'[b2]? = some (.cells (tkV t).toArray 101), ct, semH_build rowS (vs := [.string (tx acc)]) rfl rfl (by simp) (by simp) (by simp [Value.oneCell']) ⟨_, _, _, rfl, ?_⟩⟩
    have x6 : Ext hr (hr.push (.cells [Value.string (tx acc)].toArray 9)) := Ext.push _ _
    have s6 : Seg (hr.push (.cells [Value.string (tx acc)].toArray 9)) (some ⟨hr.size, 0, none⟩) 1 ([tx acc].map Value.string) := ⟨rfl, .inr ⟨_, _, rfl, cellsAt_all push_last⟩⟩
    generalize (hr.push (.cells [Value.string (tx acc)].toArray 9)) = g6 at x6 s6
    have ct6 := (x6.old b2 (Array.getElem?_eq_some_iff.1 ct).1).trans ct
    have cb6 := (x6.old b (Array.getElem?_eq_some_iff.1 cb).1).trans cb
    have y6 : Same B h g6 := y.trans (x6.same B) fun _ h _ => h
    refine ⟨ct6, (sum_c [tx acc] (by intro y hy; simp at hy; subst hy; simp only [maxLen]; omega) g6 (hh.same y6 h0) s6 (by decide)).mono ?_⟩
    rintro e g7 ⟨rfl, rfl⟩
    refine ⟨_, rfl, ct6, (t.sum : Int), fun h' c => cellsAt_one (cellH_at c), fun hne => ?_, fun he => ?_⟩
    · have hne : (sumB [tx acc]).toNat ≠ t.sum := by have := of_decide_eq_true hne; omega
      refine ⟨rfl, one Hd.no, wr cb6, fun gr er => ?_⟩
      refine fin Hd.no ⟨#[]⟩ 180 τ _ gr y6 (Dτ.ext x6) cb6 ?_ er
      rw [ef]; unfold findT
      rw [hg', if_neg (by simp), if_pos hne]
    · have he : ¬ (sumB [tx acc]).toNat ≠ t.sum := by have := of_decide_eq_false he; omega
      refine ⟨_, _, _, _, _, tk_hd ct6, rfl, one t.h, wr cb6, fun gr er => ?_⟩
      refine fin t.h (tx acc) 0 τ _ gr y6 (Dτ.ext x6) cb6 ?_ er
      rw [ef]; unfold findT
      rw [hg', if_neg (by simp), if_neg he]

theorem find_nil (h : Hp) : CallsH Tryz.prog 18 #[.pointer none] h fun e h' => Ext h h' ∧ e = .returned (.tuple #[.agg (hdV Hd.no).toArray, .string ⟨#[]⟩, vZ 1]) := by
  refine V18 _ h _ ?_
  intro b g1 hb e1
  have x1 : Ext h g1 := by rw [e1]; exact Ext.push _ _
  have cb1 : g1[b]? = some (.cells (hdV Hd.no).toArray 39) := by rw [e1, hb, zerosHead]; exact push_last
  clear e1
  refine ⟨infoHead, (newest_nil g1).mono ?_⟩
  rintro e g2 ⟨rfl, rfl⟩
  obtain ⟨q1, q2, q3, q4⟩ := hd_set cb1 Hd.no
  refine ⟨_, _, _, _, rfl, fun _ => ⟨rfl, q2, q3, fun gr er => ?_⟩, fun hf => (by simp at hf)⟩
  have er : gr = setsH g2 b 0 (hdV Hd.no) := er
  refine ⟨_, _, _, _, _, cellsAt_all (vs := hdV Hd.no) (by rw [er]; exact q4), ?_, rfl⟩
  rw [er]
  exact x1.over (setsH_same (B := fun x => x = b) rfl) fun x hx => by omega

end

end Go.Vc

