/- Checkpoints: which heads can be taken. -/
import Derived.Test.YtlidgpojlgochaaDoorS9CCkC
set_option maxRecDepth 10000
namespace Go.Vc
open Go Go.Proofs Go.MapKept

/-! ## What is told -/

structure Tk where
  h : Hd
  size : Nat
  sum : Nat
  deriving DecidableEq

abbrev vW32 (n : Nat) : Value := .int .u32 (n : Int)
def tkV (t : Tk) : List Value := [vZ t.h.slot, vU t.h.gen, vU t.h.ep, vZ t.h.ls, vZ t.h.ll, vI t.size, vW32 t.sum]
def Tk.no : Tk := ⟨Hd.no, 0, 0⟩
/-- What twenty bytes say, of a disk of so many sectors. -/
def tkL (n : Nat) (slot : Int) (gen : Nat) (L : List UInt8) : Tk :=
  ⟨⟨slot, gen, numL (L.take 8), (layF n (numL ((L.drop 8).take 4))).1.1, (layF n (numL ((L.drop 8).take 4))).1.2⟩, numL ((L.drop 12).take 4), numL ((L.drop 16).take 4)⟩
def tkOk (n : Nat) (L : List UInt8) (t : Tk) : Bool := decide ((layF n (numL ((L.drop 8).take 4))).2 = 0 ∧ rightH n t.h = true ∧ 1 ≤ t.size ∧ (t.size : Int) ≤ mostH t.h)
def Frm.isHead (f : Frm) (slot : Int) : Prop := f.kind = 1 ∧ f.index = slot ∧ f.body.size = 20
instance (f : Frm) (slot : Int) : Decidable (f.isHead slot) := inferInstanceAs (Decidable (_ ∧ _ ∧ _))
def takeF (σ : DS) (slot : Int) : Tk × Bool × Int :=
  if (getF σ slot).2 = 40 then (Tk.no, false, 40)
  else if (getF σ slot).2 ≠ 0 ∨ ¬ (getF σ slot).1.isHead slot then (Tk.no, false, 0)
  else (tkL σ.safe.length slot (getF σ slot).1.number (bl (getF σ slot).1.body), tkOk σ.safe.length (bl (getF σ slot).1.body) (tkL σ.safe.length slot (getF σ slot).1.number (bl (getF σ slot).1.body)), 0)

def stN (σ : DS) : Nat → DS × List Tk
  | 0 => (σ, [])
  | i + 1 => (((stN σ i).1.read i).1, (stN σ i).2 ++ (if (takeF (stN σ i).1 i).2.1 = true then [(takeF (stN σ i).1 i).1] else []))
def sortT : List Tk → List Tk
  | [a, b] => if a.h.gen < b.h.gen then [b, a] else [a, b]
  | l => l
def newestF (σ : DS) : DS × List Tk × Int :=
  if (takeF (stN σ 0).1 0).2.2 ≠ 0 then ((stN σ 1).1, [], (takeF (stN σ 0).1 0).2.2)
  else if (takeF (stN σ 1).1 1).2.2 ≠ 0 then ((stN σ 2).1, [], (takeF (stN σ 1).1 1).2.2)
  else ((stN σ 2).1, sortT (stN σ 2).2, 0)

theorem read_safe {σ : DS} {n : Int} : (σ.read n).1.safe = σ.safe := by unfold DS.read; split <;> rfl

/-! ## How -/

theorem zerosTk : zeros Tryd.prog 81 = (tkV Tk.no).toArray := by kernel_rfl
theorem infoTk : ∃ i z, Tryd.prog.info? 81 = some i ∧ i.zero = some z := by
  have : ((Tryd.prog.info? 81).bind (·.zero)).isSome = true := by kernel_rfl
  obtain ⟨z, hz⟩ := Option.isSome_iff_exists.1 this
  obtain ⟨i, hi, hz⟩ := Option.bind_eq_some_iff.1 hz
  exact ⟨i, z, hi, hz⟩
theorem rowTk : RowT Tryd.prog 76 81 7 56 := RowT.of (by kernel_rfl)
theorem rowHd : RowT Tryd.prog 35 26 5 40 := RowT.of (by kernel_rfl)

theorem tk_set {h : Hp} {b : Nat} {t : TypeId} {f : Tk} (c : h[b]? = some (.cells (tkV f).toArray t)) (g : Tk) :
    List.length (tkV g) = 7 ∧ (∀ v ∈ tkV g, v.oneCell' = true) ∧ wrAt h b 0 7 ∧ (setsH h b 0 (tkV g))[b]? = some (.cells (tkV g).toArray t) :=
  ⟨rfl, by simp [tkV, Value.oneCell'], (all_set c (tkV g) rfl).1, (all_set c (tkV g) rfl).2⟩
theorem tk_hd {h : Hp} {b : Nat} {t : TypeId} {f : Tk} (c : h[b]? = some (.cells (tkV f).toArray t)) : cellsAt h b (0 + 0) (hdV f.h) :=
  cellsAt_of c fun j hj => by
    match j, hj with
    | 0, _ => rfl
    | 1, _ => rfl
    | 2, _ => rfl
    | 3, _ => rfl
    | 4, _ => rfl

theorem rd_fixed {b : List UInt8} {p q : Nat} (k : Nat) {K : Int} (hK : K = (k : Int)) (h1 : 1 ≤ k) (h8 : k ≤ 8) (h : p + k ≤ b.length) : (⟨b, p, 0, q⟩ : Rd).fixed K = (numL ((b.drop p).take k), ⟨b, p + k, 0, q⟩) := by
  subst hK
  have hl : (⟨b, p, 0, q⟩ : Rd).left = b.drop p := rfl
  unfold Rd.fixed
  rw [if_neg (by simp), if_neg (by omega), hl, if_neg (by rw [List.length_drop]; omega), Int.toNat_natCast]
  rfl

section
variable {h : Hp} {B : Nat → Prop} {d : Nat} {σ : DS}

set_option maxHeartbeats 1000000 in
/-- ckpt.take -/
theorem takeH_c (D : DiskAt dI h B d σ) (hh : Halves h) (h0 : ¬ B 0) (slot : Int) : CallsH Tryd.prog 61 #[vP d, vZ slot] h fun e h' =>
    Same B h h' ∧ DiskAt dI h' B d (σ.read slot).1 ∧ e = .returned (.tuple #[.agg (tkV (takeF σ slot).1).toArray, .bool (takeF σ slot).2.1, vZ (takeF σ slot).2.2]) := by
  refine V61 _ _ h _ ?_
  intro b g1 hb e1
  have x1 : Ext h g1 := by rw [e1]; exact Ext.push _ _
  have cb1 : g1[b]? = some (.cells (tkV Tk.no).toArray 81) := by rw [e1, hb, zerosTk]; exact push_last
  clear e1
  have lb1 := (Array.getElem?_eq_some_iff.1 cb1).1
  refine ⟨infoTk, (get_c (D.ext x1) (hh.ext x1) h0 slot).mono ?_⟩
  rintro e g2 ⟨y2, D2, rfl⟩
  obtain ⟨f, hf⟩ : ∃ f, f = (getF σ slot).1 := ⟨_, rfl⟩
  obtain ⟨c, hc⟩ : ∃ c, c = (getF σ slot).2 := ⟨_, rfl⟩
  rw [← hf, ← hc]
  refine ⟨_, _, _, _, _, rfl, ?_⟩
  intro b1 g3 hb1 e3
  have x3 : Ext g2 g3 := by rw [e3]; exact Ext.push _ _
  have c3 : g3[b1]? = some (.cells (frmV Frm.no).toArray 74) := by rw [e3, hb1, zerosFrame]; exact push_last
  clear e3
  obtain ⟨q1, q2, q3, q4⟩ := frm_set c3 f
  refine ⟨infoFrame, rfl, q2, q3, ?_⟩
  intro g4 e4
  have hbB : ¬ B b := fun hx => by have := D.lt _ hx; omega
  have l1 := x1.size
  have l2 := y2.size
  have x4 : Ext g2 g4 := by rw [e4]; exact x3.over (setsH_same (B := fun x => x = b1) rfl) fun x hx => by omega
  have cf : g4[b1]? = some (.cells (frmV f).toArray 74) := by rw [e4]; exact q4
  clear e4 q1 q2 q3 q4 c3 x3
  have cb4 : g4[b]? = some (.cells (tkV Tk.no).toArray 81) := (x4.old b (by omega)).trans ((y2.old b lb1 hbB).trans cb1)
  have y04 : Same B h g4 := ((x1.same B).trans y2 fun _ h _ => h).trans (x4.same B) fun _ h _ => h
  have D4 := D2.ext x4
  -- the end: the result is set
  have fin : ∀ (t : Tk) (ok : Bool) (code : Int) (gq gr : Hp), Ext g4 gq → takeF σ slot = (t, ok, code) → gr = setsH gq b 0 (tkV t) →
      ∃ f0 f1 f2 f3 f4 f5 f6 : Int, cellsAt gr b 0 [vZ f0, .int .u64 f1, .int .u64 f2, vZ f3, vZ f4, vZ f5, .int .u32 f6] ∧
        (Same B h gr ∧ DiskAt dI gr B d (σ.read slot).1 ∧ Ending.returned (.tuple #[.agg #[vZ f0, .int .u64 f1, .int .u64 f2, vZ f3, vZ f4, vZ f5, .int .u32 f6], .bool ok, vZ code]) = .returned (.tuple #[.agg (tkV (takeF σ slot).1).toArray, .bool (takeF σ slot).2.1, vZ (takeF σ slot).2.2])) := by
    intro t ok code gq gr x et er
    have cq := (x.old b (Array.getElem?_eq_some_iff.1 cb4).1).trans cb4
    have cr := (tk_set cq t).2.2.2
    rw [← er] at cr
    have ys : Same (fun x => x = b) gq gr := by rw [er]; exact setsH_same rfl
    refine ⟨_, _, _, _, _, _, _, cellsAt_all (vs := tkV t) cr, ?_, (D4.ext x).other ys fun x hx e => hbB (e ▸ hx), by rw [et]; rfl⟩
    exact (y04.trans (x.same B) fun _ h _ => h).trans ys fun x hx hl => by omega
  have wr : ∀ (gq : Hp), Ext g4 gq → wrAt gq b 0 7 := fun gq x => (tk_set ((x.old b (Array.getElem?_eq_some_iff.1 cb4).1).trans cb4) Tk.no).2.2.1
  have one : ∀ t : Tk, ∀ v ∈ tkV t, v.oneCell' = true := fun t => by simp [tkV, Value.oneCell']
  refine ⟨fun h40 => ?_, fun h40 => ?_⟩
  · have h40 : c = 40 := of_decide_eq_true h40
    refine ⟨rfl, one Tk.no, wr _ (Ext.refl _), fun gr er => ?_⟩
    rw [h40]
    exact fin Tk.no false 40 g4 gr (Ext.refl _) (by unfold takeF; rw [← hc, if_pos h40]) er
  have h40 : ¬ c = 40 := of_decide_eq_false h40
  refine ⟨fun l hq => hq = g4 ∧ c = 0 ∧ f.isHead slot, ⟨decide (c ≠ 0 ∨ ¬ f.isHead slot), ⟨fun k => ⟨rfl, ?_⟩, fun k => ⟨_, cellsAt_one (cellH_at cf), fun k1 => ⟨rfl, ?_⟩, fun k1 => ⟨_, cellsAt_one (cellH_at cf), fun k2 => ⟨rfl, ?_⟩, fun k2 => ⟨_, cellsAt_one (cellH_at cf), rfl, ?_⟩⟩⟩⟩, fun hB => ?_, fun hB => ?_⟩, ?_⟩
  · exact decide_eq_true (p := c ≠ 0 ∨ ¬ f.isHead slot) (.inl (of_decide_eq_true k))
  · have k1 : f.kind ≠ 1 := of_decide_eq_true k1
    exact decide_eq_true (p := c ≠ 0 ∨ ¬ f.isHead slot) (.inr fun hh => k1 hh.1)
  · have k2 : f.index ≠ slot := of_decide_eq_true k2
    exact decide_eq_true (p := c ≠ 0 ∨ ¬ f.isHead slot) (.inr fun hh => k2 hh.2.1)
  · have k : ¬ c ≠ 0 := of_decide_eq_false k
    have k1 : ¬ f.kind ≠ 1 := of_decide_eq_false k1
    have k2 : ¬ f.index ≠ slot := of_decide_eq_false k2
    apply decide_eq_decide.2
    constructor
    · rintro (hh | hh)
      · exact (k hh).elim
      · intro h20
        exact hh ⟨by omega, by omega, by omega⟩
    · intro hh
      exact .inr fun h3 => hh (by have := h3.2.2; omega)
  · have hB := of_decide_eq_true hB
    refine ⟨rfl, one Tk.no, wr _ (Ext.refl _), fun gr er => ?_⟩
    exact fin Tk.no false 0 g4 gr (Ext.refl _) (by unfold takeF; rw [← hc, ← hf, if_neg h40, if_pos hB]) er
  · have hB := of_decide_eq_false hB
    exact ⟨rfl, by omega, Decidable.of_not_not fun hh => hB (.inr hh)⟩
  rintro g4' ⟨rfl, hc0, hhd⟩
  have hsz := hhd.2.2
  obtain ⟨L, hL⟩ : ∃ L, L = bl f.body := ⟨_, rfl⟩
  have hLl : L.length = 20 := by rw [hL, bl_length, hsz]
  have hn : (σ.read slot).1.safe.length = σ.safe.length := by rw [read_safe]
  have htk : takeF σ slot = (tkL σ.safe.length slot f.number L, tkOk σ.safe.length L (tkL σ.safe.length slot f.number L), 0) := by
    unfold takeF
    rw [← hc, ← hf, if_neg h40, if_neg (by rintro (h | h); exact h hc0; exact h hhd), ← hL]
  obtain ⟨t, ht⟩ : ∃ t, t = tkL σ.safe.length slot f.number L := ⟨_, rfl⟩
  rw [← ht] at htk
  refine ⟨_, cellsAt_one (cellH_at cf), (ropen_c f.body (by omega) g4').mono ?_⟩
  rintro e g5 ⟨x5, R5, rfl⟩
  rw [← hL] at R5
  have p4 : ∀ {ga gb : Hp}, Ext g4' ga → Same (P1 g4'.size) ga gb → Ext g4' gb := fun x y => x.over y fun b hb => by rw [hb]; exact Nat.le_refl _
  refine ⟨_, rfl, (rfixed_c R5 8 (by decide)).mono ?_⟩
  rintro e g6 ⟨y6, R6, rfl⟩
  rw [show Rd.open L = ⟨L, 0, 0, 0⟩ from rfl, rd_fixed (K := (8 : Int)) 8 rfl (by decide) (by decide) (by omega)] at R6 ⊢
  have x6 := p4 x5 y6
  refine ⟨_, rfl, (size_c (D4.ext x6)).mono ?_⟩
  rintro e g6' ⟨rfl, rfl⟩
  rw [hn]
  refine ⟨_, rfl, (rfixed_c R6 4 (by decide)).mono ?_⟩
  rintro e g7 ⟨y7, R7, rfl⟩
  rw [rd_fixed (K := (4 : Int)) 4 rfl (by decide) (by decide) (by omega)] at R7 ⊢
  have x7 := p4 x6 y7
  have hs4 : ∀ j, numL ((L.drop j).take 4) < 4294967296 := fun j => numL_small (k := 4) (by rw [List.length_take]; omega)
  have hs8 : numL ((L.drop 0).take 8) < 18446744073709551616 := numL_small (k := 8) (by rw [List.length_take]; omega)
  obtain ⟨n8, hn8⟩ : ∃ n8, n8 = numL ((L.drop (0 + 8)).take 4) := ⟨_, rfl⟩
  have k8 : n8 < 4294967296 := by rw [hn8]; exact hs4 _
  rw [← hn8]
  refine ⟨_, rfl, (n8 : Int), wrapI64 (by omega) (by omega), (layout_c _ (n8 : Int) (by omega) g7).mono ?_⟩
  rintro e g8 ⟨x8, rfl⟩
  obtain ⟨ly, hly⟩ : ∃ ly, ly = layF (σ.safe.length : Int) (n8 : Int) := ⟨_, rfl⟩
  rw [← hly]
  refine ⟨_, _, _, rfl, ?_⟩
  intro b2 g9 hb2 e9
  have x9 : Ext g8 g9 := by rw [e9]; exact Ext.push _ _
  have c9 : g9[b2]? = some (.cells (lyV (0, 0)).toArray 24) := by rw [e9, hb2, zerosLay]; exact push_last
  clear e9
  obtain ⟨q1, q2, q3, q4⟩ := ly_set c9 ly.1
  refine ⟨infoLay, rfl, q2, q3, ?_⟩
  intro g10 e10
  have x10 : Ext g8 g10 := by rw [e10]; exact x9.over (setsH_same (B := fun x => x = b2) rfl) fun x hx => by omega
  have c10 : g10[b2]? = some (.cells (lyV ly.1).toArray 24) := by rw [e10]; exact q4
  clear e10 q1 q2 q3 q4 c9 x9
  have x410 : Ext g4' g10 := (x7.trans x8).trans x10
  have cf10 := (x410.old b1 (Array.getElem?_eq_some_iff.1 cf).1).trans cf
  refine ⟨_, cellsAt_one (cellH_at cf10), _, _, cellsAt_all (vs := lyV ly.1) c10, ?_⟩
  intro b3 g11 hb3 e11
  have x11 : Ext g10 g11 := by rw [e11]; exact Ext.push _ _
  have c11 : g11[b3]? = some (.cells (tkV Tk.no).toArray 81) := by rw [e11, hb3, zerosTk]; exact push_last
  clear e11
  obtain ⟨H, hH⟩ : ∃ H : Hd, H = ⟨slot, f.number, numL ((L.drop 0).take 8), ly.1.1, ly.1.2⟩ := ⟨_, rfl⟩
  have eV : ∀ a s : Nat, [vZ slot, vU f.number, vU (numL ((L.drop 0).take 8)), vZ ly.1.1, vZ ly.1.2, vI a, vW32 s] = tkV ⟨H, a, s⟩ := fun a s => by rw [hH]; rfl
  obtain ⟨q1, q2, q3, q4⟩ := tk_set c11 ⟨H, 0, 0⟩
  refine ⟨infoTk, rfl, by rw [hH] at q2; exact q2, q3, ?_⟩
  intro g12 e12
  have e12 : g12 = setsH g11 b3 0 (tkV ⟨H, 0, 0⟩) := by rw [e12, hH]; rfl
  have l10 := x410.size
  have x12 : Ext g10 g12 := by rw [e12]; exact x11.over (setsH_same (B := fun x => x = b3) rfl) fun x hx => by omega
  have c12 : g12[b3]? = some (.cells (tkV ⟨H, 0, 0⟩).toArray 81) := by rw [e12]; exact q4
  clear e12 q1 q2 q3 q4 c11 x11
  have x412 := x410.trans x12
  have R12 := ((R7.ext x8).ext x10).ext x12
  have hpb : g4'.size < b3 := by have := R5.lt; have := x6.size; have := y6.size; have := y7.size; have := x8.size; have := x10.size; omega
  refine (rfixed_c R12 4 (by decide)).mono ?_
  rintro e g13 ⟨y13, R13, rfl⟩
  rw [rd_fixed (K := (4 : Int)) 4 rfl (by decide) (by decide) (by omega)] at R13 ⊢
  have x413 := p4 x412 y13
  have c13 : g13[b3]? = some (.cells (tkV ⟨H, 0, 0⟩).toArray 81) := (y13.old b3 (Array.getElem?_eq_some_iff.1 c12).1 (by show ¬ b3 = _; omega)).trans c12
  obtain ⟨sz, hsz'⟩ : ∃ sz, sz = numL ((L.drop (0 + 8 + 4)).take 4) := ⟨_, rfl⟩
  have ksz : sz < 4294967296 := by rw [hsz']; exact hs4 _
  rw [← hsz']
  refine ⟨_, rfl, (sz : Int), wrapI64 (by omega) (by omega), rfl, wrAt_of c13 (by show 0 + 5 + 1 ≤ 7; decide) (.inl (Nat.zero_le _)), ?_⟩
  intro g14 e14
  have c14 : g14[b3]? = some (.cells (tkV ⟨H, sz, 0⟩).toArray 81) := by rw [e14, setsH_at c13]; rfl
  have x414 : Ext g4' g14 := by rw [e14]; exact x413.over (setsH_same (B := fun x => x = b3) rfl) fun x hx => by omega
  have R14 : RdAt g14 g4'.size ⟨L, 0 + 8 + 4 + 4, 0, 0⟩ := by
    rw [e14]
    exact R13.other (setsH_same (B := fun x => x = b3) rfl) (by omega)
  clear e14
  refine (rfixed_c R14 4 (by decide)).mono ?_
  rintro e g15 ⟨y15, R15, rfl⟩
  rw [rd_fixed (K := (4 : Int)) 4 rfl (by decide) (by decide) (by omega)]
  have x415 := p4 x414 y15
  have c15 : g15[b3]? = some (.cells (tkV ⟨H, sz, 0⟩).toArray 81) := (y15.old b3 (Array.getElem?_eq_some_iff.1 c14).1 (by show ¬ b3 = _; omega)).trans c14
  obtain ⟨sm, hsm⟩ : ∃ sm, sm = numL ((L.drop (0 + 8 + 4 + 4)).take 4) := ⟨_, rfl⟩
  have ksm : sm < 4294967296 := by rw [hsm]; exact hs4 _
  rw [← hsm]
  refine ⟨_, rfl, (sm : Int), by rw [wrapU32]; omega, rfl, wrAt_of c15 (by show 0 + 6 + 1 ≤ 7; decide) (.inl (Nat.zero_le _)), ?_⟩
  intro g16 e16
  have c16 : g16[b3]? = some (.cells (tkV ⟨H, sz, sm⟩).toArray 81) := by rw [e16, setsH_at c15]; rfl
  have x416 : Ext g4' g16 := by rw [e16]; exact x415.over (setsH_same (B := fun x => x = b3) rfl) fun x hx => by omega
  clear e16
  have et : t = ⟨H, sz, sm⟩ := by rw [ht, hH, hsz', hsm, hly, hn8]; rfl
  rw [← et] at c16
  have etH : t.h = H := by rw [et]
  have etS : t.size = sz := by rw [et]
  have hok : tkOk σ.safe.length L t = decide (ly.2 = 0 ∧ rightH σ.safe.length t.h = true ∧ 1 ≤ t.size ∧ (t.size : Int) ≤ mostH t.h) := by
    unfold tkOk
    rw [hly, hn8]
  have cv : ∀ {gq : Hp}, Ext g16 gq → gq[b3]? = some (.cells (tkV t).toArray 81) := fun x => (x.old b3 (Array.getElem?_eq_some_iff.1 c16).1).trans c16
  have hls : H.ls ≤ 9223372036854775807 ∧ (rightH σ.safe.length H = true → -1000000000 ≤ H.ls ∧ H.ls ≤ 1000000000) := by
    refine ⟨?_, fun hr => by have := rightH_ok hr; omega⟩
    have : H.ls = ly.1.1 := by rw [hH]
    rw [this, hly]
    unfold layF
    split
    · decide
    · split
      · decide
      · show (n8 : Int) ≤ _; omega
  have done : ∀ (gq : Hp), Ext g16 gq → (ok : Bool) → tkOk σ.safe.length L t = ok → 
      ∃ f0 f1 f2 f3 f4 f5 f6 : Int, cellsAt gq b3 0 [vZ f0, .int .u64 f1, .int .u64 f2, vZ f3, vZ f4, vZ f5, .int .u32 f6] ∧ List.length [vZ f0, .int .u64 f1, .int .u64 f2, vZ f3, vZ f4, vZ f5, .int .u32 f6] = 7 ∧
        (∀ c ∈ [vZ f0, .int .u64 f1, .int .u64 f2, vZ f3, vZ f4, vZ f5, .int .u32 f6], c.oneCell' = true) ∧ wrAt gq b 0 7 ∧ ∀ gr, gr = setsH gq b 0 [vZ f0, .int .u64 f1, .int .u64 f2, vZ f3, vZ f4, vZ f5, .int .u32 f6] →
        ∃ f0 f1 f2 f3 f4 f5 f6 : Int, cellsAt gr b 0 [vZ f0, .int .u64 f1, .int .u64 f2, vZ f3, vZ f4, vZ f5, .int .u32 f6] ∧
        (Same B h gr ∧ DiskAt dI gr B d (σ.read slot).1 ∧ Ending.returned (.tuple #[.agg #[vZ f0, .int .u64 f1, .int .u64 f2, vZ f3, vZ f4, vZ f5, .int .u32 f6], .bool ok, vZ 0]) = .returned (.tuple #[.agg (tkV (takeF σ slot).1).toArray, .bool (takeF σ slot).2.1, vZ (takeF σ slot).2.2])) := by
    intro gq x ok hk
    exact ⟨_, _, _, _, _, _, _, cellsAt_all (vs := tkV t) (cv x), rfl, one t, wr gq (x416.trans x), fun gr er => fin t ok 0 gq gr (x416.trans x) (by rw [htk, hk]) er⟩
  refine ⟨fun h' => h'[b3]? = some (.cells (tkV t).toArray 81), c16, fun hl0 => ?_, fun hl0 => ?_⟩
  · have hl0 : ly.2 = 0 := of_decide_eq_true hl0
    refine ⟨_, _, _, _, _, tk_hd c16, (right_c (D4.ext x416) t.h (by rw [etH]; exact hls.1)).mono ?_⟩
    rintro e g17 ⟨x17, rfl⟩
    rw [hn]
    refine ⟨_, rfl, cv x17, fun hr => ⟨_, cellsAt_one (cellH_at (cv x17)), fun h1 => ⟨_, fun h' c => cellsAt_one (cellH_at c), _, _, _, _, _, tk_hd (cv x17), ?_⟩, fun h1 => ?_⟩, fun hr => ?_⟩
    · have h1 : (1 : Int) ≤ (t.size : Int) := of_decide_eq_true h1
      have hb' := hls.2 (by rw [← etH]; exact hr)
      refine (most_c t.h (by rw [etH]; exact hb'.1) (by rw [etH]; exact hb'.2) g17).mono ?_
      rintro e g18 ⟨x18, rfl⟩
      exact ⟨_, rfl, cv (x17.trans x18), done g18 (x17.trans x18) _ (by
        rw [hok]
        apply decide_eq_decide.2
        exact ⟨fun h => h.2.2.2, fun h => ⟨hl0, hr, by omega, h⟩⟩)⟩
    · have h1 : ¬ (1 : Int) ≤ (t.size : Int) := of_decide_eq_false h1
      exact done g17 x17 false (by rw [hok]; exact decide_eq_false fun h => h1 (by have := h.2.2.1; omega))
    · exact done g17 x17 false (by rw [hok]; exact decide_eq_false fun h => by rw [h.2.1] at hr; cases hr)
  · have hl0 : ¬ ly.2 = 0 := of_decide_eq_false hl0
    exact done g16 (Ext.refl _) false (by rw [hok]; exact decide_eq_false fun h => hl0 h.1)

end

end Go.Vc
